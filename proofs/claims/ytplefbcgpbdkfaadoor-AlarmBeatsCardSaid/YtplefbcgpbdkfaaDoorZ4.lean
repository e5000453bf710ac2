/- Packages num, nightjarref01, nightjarref03, nightjarref08: the contracts. -/
import Derived.Test.YtplefbcgpbdkfaaDoorZ3
set_option linter.all false
namespace Go.Proofs.YtplefbcgpbdkfaaDoor
open Go Go.Fx
-- ENV: KN
def B64 : Int := 18446744073709551616
def addC (a b : Int) : Int × Bool := if a + b < 18446744073709551616 then (a + b, true) else (0, false)
def conNAdd : Con := fnP [.d (.i .u64), .d (.i .u64)] (fun (a b : Int) => u64ok a ∧ u64ok b) (fun (a b : Int) => .tup [u64 (addC a b).1, bb (addC a b).2])
def minusC (a b : Int) : Int := if a < b then 0 else a - b
def conNMinus : Con := fnP [.d (.i .u64), .d (.i .u64)] (fun (a b : Int) => u64ok a ∧ u64ok b) (fun (a b : Int) => u64 (minusC a b))
def timesC (a b : Int) : Int × Bool := if a * b < 18446744073709551616 then (a * b, true) else (0, false)
def conNTimes : Con := fnP [.d (.i .u64), .d (.i .u64)] (fun (a b : Int) => u64ok a ∧ u64ok b) (fun (a b : Int) => .tup [u64 (timesC a b).1, bb (timesC a b).2])
/-- How many periods. -/
def manyC (d p e : Int) : Int := (if d < e then (e - d) / p else 0) + 1
def nextC (d p e : Int) : Int × Int × Bool := if p = 0 then (0, 0, false) else if d + manyC d p e * p < 18446744073709551616 ∧ manyC d p e < 18446744073709551616 then (d + manyC d p e * p, manyC d p e, true) else (0, 0, false)
def conNNext : Con := fnP [.d (.i .u64), .d (.i .u64), .d (.i .u64)] (fun (d p e : Int) => u64ok d ∧ u64ok p ∧ u64ok e) (fun (d p e : Int) => .tup [u64 (nextC d p e).1, u64 (nextC d p e).2.1, bb (nextC d p e).2.2])
abbrev tpWd : Tp := .p (.i .u64) (.i .u64)
def wide (x : Int) : Int × Int := (x / 18446744073709551616, x % 18446744073709551616)
def conWSum : Con := fnP [.d (.i .u64), .d (.i .u64)] (fun (a b : Int) => u64ok a ∧ u64ok b) (fun (a b : Int) => .x tpWd (wide (a + b)))
def conWProd : Con := fnP [.d (.i .u64), .d (.i .u64)] (fun (a b : Int) => u64ok a ∧ u64ok b) (fun (a b : Int) => .x tpWd (wide (a * b)))
def conDNext : Con := fnP [.d (.i .u64), .d (.i .u64), .d (.i .u64)] (fun (d p e : Int) => u64ok d ∧ u64ok p ∧ u64ok e) (fun (d p e : Int) => .tup [u64 (nextC d p e).1, u64 (nextC d p e).2.1, bb (nextC d p e).2.2])

-- nightjarref03.Same: conSame3 (Jc)

/-! ### The document's book -/
abbrev noTm : Tm := (false, 0, 0, 0, 0, 0)
def isB (b : Bo) (k : Int) : Bool := decide (0 ≤ k) && (decide (k < b.1.length) && (ix b.1 k).1)
def withB (b : Bo) (k : Int) (t : Tm) : Bo := (b.1.set k.toNat t, b.2)
abbrev idle : Tm := (true, 0, 0, 0, 0, 0)
def conDNew : Con := (fnP [.d (.i .i64), .d (.i .u64)] (fun (n now : Int) => 0 ≤ n ∧ n ≤ 4096) (fun (n now : Int) => .x tpBo (List.replicate n.toNat noTm, 0, now))).firm
def conDIs : Con := fnC [.d tpBo, .d (.i .i64)] (fun (b : Bo) (k : Int) => bb (isB b k))
def conDWith : Con := (fnP [.d tpBo, .d (.i .i64), .d tpTm] (fun (b : Bo) (k : Int) (t : Tm) => 0 ≤ k ∧ k < b.1.length ∧ b.1.length ≤ 4096) (fun (b : Bo) (k : Int) (t : Tm) => .x tpBo (withB b k t))).firm
def makeB (b : Bo) (k : Int) (ok : Bool) : Bo := if ok then withB b k idle else b
def conDMake : Con := (mkCon [.d tpBo] [] [] (fun (b : Bo) => b.1.length ≤ 4096) [.i .i64, .bo] (fun (b : Bo) (k : Int) (ok : Bool) => NextP (fun i => !(ix b.1 i).1) 0 b.1.length k ok) (fun (b : Bo) (k : Int) (ok : Bool) => .tup [.x tpBo (makeB b k ok), i64 k, bb ok]) (constX [] _) (constX [] _)).firm
def freeB (b : Bo) (k : Int) : Bo := if isB b k then withB b k noTm else b
def conDFree : Con := (fnP [.d tpBo, .d (.i .i64)] (fun (b : Bo) (k : Int) => b.1.length ≤ 4096) (fun (b : Bo) (k : Int) => .tup [.x tpBo (freeB b k), bb (isB b k)])).firm
def armB (b : Bo) (k h at_ p : Int) : Bo := if isB b k then (b.1.set k.toNat (true, 1, h, at_, p, b.2.1 + 1), b.2.1 + 1, b.2.2) else b
def conDArm : Con := (fnP [.d tpBo, .d (.i .i64), .d (.i .u64), .d (.i .u64), .d (.i .u64)] (fun (b : Bo) (k h at_ p : Int) => b.1.length ≤ 4096 ∧ 0 ≤ b.2.1 ∧ b.2.1 < 9223372036854775807) (fun (b : Bo) (k h at_ p : Int) => .tup [.x tpBo (armB b k h at_ p), bb (isB b k)])).firm
def stopI (b : Bo) (k : Int) : Bool := isB b k && decide ((ix b.1 k).2.1 ≠ 0)
def stopB (b : Bo) (k : Int) : Bo := if stopI b k then withB b k idle else b
def conDStop : Con := (fnP [.d tpBo, .d (.i .i64)] (fun (b : Bo) (k : Int) => b.1.length ≤ 4096) (fun (b : Bo) (k : Int) => .tup [.x tpBo (stopB b k), bb (stopI b k)])).firm
def aheadB (x y : Tm) : Bool := decide (x.2.2.2.1 < y.2.2.2.1) || (decide (x.2.2.2.1 = y.2.2.2.1) && decide (x.2.2.2.2.2 < y.2.2.2.2.2))
def conDAhead : Con := fnC [.d tpTm, .d tpTm] (fun (x y : Tm) => bb (aheadB x y))
def mkT (t : Tm) : Mk := if t.2.1 = 1 then (true, t.2.2.2.1, t.2.2.2.2.2) else (false, 0, 0)
/-- The wheel of a book. -/
def whB (b : Bo) : Wh := (b.1.map mkT, b.2.2)
def dueT (t : Tm) : Tm := (t.1, 2, t.2.2)
def toB (b : Bo) (to : Int) : Bo := (b.1.map fun t => if (mkT t).1 && decide ((mkT t).2.1 ≤ nowR (whB b) to) then dueT t else t, b.2.1, nowR (whB b) to)
def conDTo : Con := (fnRV [.d tpBo, .d (.i .u64)] (fun (b : Bo) (to : Int) => b.1.length ≤ 4096) (fun (b : Bo) (to : Int) => .tup [.x tpBo (toB b to), .own 0]) (fun (b : Bo) (to : Int) => [mkRow 3 (.i .i64) (outR (whB b) to)])).firm
def sentI (b : Bo) (k : Int) : Bool := isB b k && decide ((ix b.1 k).2.1 = 2)
def sentB (b : Bo) (k stamp : Int) : Bo × Int :=
  if sentI b k then (let t := ix b.1 k; let x := nextC t.2.2.2.1 t.2.2.2.2.1 stamp; if x.2.2 then (armB b k t.2.2.1 x.1 t.2.2.2.2.1, x.2.1) else (withB b k idle, 1)) else (b, 0)
structure TmU (t : Tm) : Prop where
  h : u64ok t.2.2.1
  a : u64ok t.2.2.2.1
  p : u64ok t.2.2.2.2.1
def conDSent : Con := (fnP [.d tpBo, .d (.i .i64), .d (.i .u64)] (fun (b : Bo) (k stamp : Int) => b.1.length ≤ 4096 ∧ 0 ≤ b.2.1 ∧ b.2.1 < 9223372036854775807 ∧ u64ok stamp ∧ (∀ k : Int, 0 ≤ k → k < b.1.length → TmU (ix b.1 k))) (fun (b : Bo) (k stamp : Int) => .tup [.x tpBo (sentB b k stamp).1, u64 (sentB b k stamp).2])).firm
def cntB (l : List Tm) : Int × Int := ((((l.filter (·.1)).length : Nat) : Int), (((l.filter fun t => decide (t.2.1 = 1)).length : Nat) : Int))
def conDCount : Con := fnP [.d tpBo] (fun (b : Bo) => b.1.length ≤ 4096) (fun (b : Bo) => .tup [i64 (cntB b.1).1, i64 (cntB b.1).2])
section
variable {d p e a b : Int}
theorem quoU_ (a0 : 0 ≤ a) (a1 : a < 18446744073709551616) (b0 : 0 < b) : litArith .quo .u64 a b = a / b := by
  show IntKind.wrap .u64 (a.tdiv b) = a / b
  have h0 : 0 ≤ a / b := Int.ediv_nonneg a0 (by omega)
  have h1 : a / b ≤ a := Int.ediv_le_self _ a0
  rw [Int.tdiv_eq_ediv_of_nonneg a0, wrapU_ (by omega) (by omega)]
theorem mulU_ (h0 : 0 ≤ a * b) (h1 : a * b < 18446744073709551616) : litArith .mul .u64 a b = a * b := wrapU_ h0 h1
theorem minus_ok (ha : u64ok a) (hb : u64ok b) : u64ok (minusC a b) := by
  obtain ⟨a0, a1⟩ := ha; obtain ⟨b0, b1⟩ := hb
  unfold minusC u64ok
  split <;> constructor <;> omega
theorem many_eq (he : 0 ≤ e) : manyC d p e = minusC e d / p + 1 := by
  unfold manyC minusC
  by_cases c : d < e
  · rw [if_pos c, if_neg (by omega)]
  · rw [if_neg c]
    by_cases c2 : e < d
    · rw [if_pos c2, Int.zero_ediv]
    · rw [if_neg c2, show e - d = 0 from by omega, Int.zero_ediv]
theorem next_no (h : ¬ (d + manyC d p e * p < 18446744073709551616 ∧ manyC d p e < 18446744073709551616)) : nextC d p e = (0, 0, false) := by
  unfold nextC
  by_cases hp : p = 0
  · rw [if_pos hp]
  · rw [if_neg hp, if_neg h]
theorem next_yes (hp : p ≠ 0) (h : d + manyC d p e * p < 18446744073709551616 ∧ manyC d p e < 18446744073709551616) : nextC d p e = (d + manyC d p e * p, manyC d p e, true) := by
  unfold nextC
  rw [if_neg hp, if_pos h]
theorem many_pos (he : u64ok e) (hd : u64ok d) (hp : 0 < p) : 1 ≤ manyC d p e := by
  rw [many_eq he.1]
  have := Int.ediv_nonneg (minus_ok he hd).1 (Int.le_of_lt hp)
  omega
theorem orsh_ {x y : Int} (x0 : 0 ≤ x) (y0 : 0 ≤ y) (y1 : y < 4294967296) : litArith .or .u64 (litArith .shl .u64 x 32) y = x % 4294967296 * 4294967296 + y := by
  obtain ⟨n, rfl⟩ := i64_of_nat x0
  obtain ⟨m, rfl⟩ := i64_of_nat y0
  have e : litArith .shl .u64 (n : Int) 32 = ((n % 4294967296 * 4294967296 : Nat) : Int) := by
    show ((n : Int) * 2 ^ min ((32 : Int).toNat) 64) % 18446744073709551616 = _
    rw [show (2 : Int) ^ min ((32 : Int).toNat) 64 = 4294967296 from by decide]
    omega
  rw [e, orU_ (by omega) (by omega)]
  have h := Nat.shiftLeft_add_eq_or_of_lt (a := n % 4294967296) (b := m) (i := 32) (by omega)
  rw [Nat.shiftLeft_eq] at h
  rw [show (2 : Nat) ^ 32 = 4294967296 from rfl] at h
  rw [← h]
  omega
theorem shr32_ {x : Int} : litArith .shr .u64 x 32 = x / 4294967296 := shrU_ x 32 (by decide)
theorem and32_ {x : Int} (h : u64ok x) : litArith .and .u64 x 4294967295 = x % 4294967296 := andM_ 32 (by decide) h.1 h.2
end
end Go.Proofs.YtplefbcgpbdkfaaDoor
/- Packages num, nightjarref01: the code keeps the contracts. -/
namespace Go.Proofs.YtplefbcgpbdkfaaDoor
open Go Go.Fx
-- ENV: KN

set_option maxRecDepth 10000 in
theorem nadd_vc :
  ∀ x0 : Int,
 ∀ x1 : Int,
 ((u64ok x0) ∧
 (u64ok x1)) →
 ∀ x2 : Int,
 (x2 = litArith BinOp.sub IntKind.u64 (18446744073709551615 : Int) x0) →
 ((litCmp BinOp.gtr x1 x2 = true) →
 (True) ∧
 (((0 : Int) = Prod.fst (addC x0 x1)) ∧
 ((false = Prod.snd (addC x0 x1)) ∧
 (True)))) ∧
 ((litCmp BinOp.gtr x1 x2 = false) →
 ∀ x3 : Int,
 (x3 = litArith BinOp.add IntKind.u64 x0 x1) →
 (True) ∧
 ((x3 = Prod.fst (addC x0 x1)) ∧
 ((true = Prod.snd (addC x0 x1)) ∧
     (True)))) := by
  rintro a b ⟨⟨a0, a1⟩, b0, b1⟩
  simp only [gtrT, gtrF, lssT, lssF, leqT, leqF, geqT, geqF, eqlT, eqlF, neqT, neqF, true_and, and_true, true_implies, implies_true, Bool.not_eq_true', Bool.not_eq_false', bne_iff_ne, ne_eq, not_true_eq_false, not_false_eq_true, Int.toNat_natCast, same_self, reduceCtorEq, false_implies, List.nil_append]
  rintro _ rfl
  rw [subU_ (by omega) (by omega)]
  unfold addC
  refine ⟨fun h => ?_, fun h => ?_⟩
  · rw [if_neg (by omega)]; exact ⟨rfl, rfl⟩
  · rintro _ rfl
    rw [if_pos (by omega), addU_ (by omega) (by omega)]; exact ⟨rfl, rfl⟩
set_option maxRecDepth 10000 in
theorem nadd_ok : conNAdd.ok KN Tryd.prog 71 := by
  refine Con.of_vc ([]) ([]) ([]) TT_ok follows Tryd.func71 ?_ G64_ok (@toVC _ _ nadd_vc ?_)
  · kernel_rfl
  · kernel_rfl
noncomputable def G65 : List (FuncId × Con) := (71, conNAdd) :: G64
theorem G65_ok : GOK KN Tryd.prog G65 := GOK.cons (Callable.of Tryd.func71 (by kernel_rfl) (by kernel_rfl)) nadd_ok G64_ok

set_option maxRecDepth 10000 in
theorem nminus_vc :
  ∀ x0 : Int,
 ∀ x1 : Int,
 ((u64ok x0) ∧
 (u64ok x1)) →
 ((litCmp BinOp.gtr x1 x0 = true) →
 (True) ∧
 (((0 : Int) = minusC x0 x1) ∧
 (True))) ∧
 ((litCmp BinOp.gtr x1 x0 = false) →
 ∀ x2 : Int,
 (x2 = litArith BinOp.sub IntKind.u64 x0 x1) →
 (True) ∧
 ((x2 = minusC x0 x1) ∧
    (True))) := by
  rintro a b ⟨⟨a0, a1⟩, b0, b1⟩
  simp only [gtrT, gtrF, lssT, lssF, leqT, leqF, geqT, geqF, eqlT, eqlF, neqT, neqF, true_and, and_true, true_implies, implies_true, Bool.not_eq_true', Bool.not_eq_false', bne_iff_ne, ne_eq, not_true_eq_false, not_false_eq_true, Int.toNat_natCast, same_self, reduceCtorEq, false_implies, List.nil_append]
  unfold minusC
  refine ⟨fun h => by rw [if_pos h], fun h => ?_⟩
  rintro _ rfl
  rw [subU_ (by omega) (by omega), if_neg (by omega)]
set_option maxRecDepth 10000 in
theorem nminus_ok : conNMinus.ok KN Tryd.prog 69 := by
  refine Con.of_vc ([]) ([]) ([]) TT_ok follows Tryd.func69 ?_ G65_ok (@toVC _ _ nminus_vc ?_)
  · kernel_rfl
  · kernel_rfl
noncomputable def G66 : List (FuncId × Con) := (69, conNMinus) :: G65
theorem G66_ok : GOK KN Tryd.prog G66 := GOK.cons (Callable.of Tryd.func69 (by kernel_rfl) (by kernel_rfl)) nminus_ok G65_ok

set_option maxRecDepth 10000 in
theorem ntimes_vc :
  ∀ x0 : Int,
 ∀ x1 : Int,
 ((u64ok x0) ∧
 (u64ok x1)) →
 ((litCmp BinOp.gtr x0 (0 : Int) = true) →
 (x0 ≠ (0 : Int)) ∧
 (∀ x2 : Int,
 (x2 = litArith BinOp.quo IntKind.u64 (18446744073709551615 : Int) x0) →
 ((litCmp BinOp.gtr x1 x2 = true) →
 (True) ∧
 (((0 : Int) = Prod.fst (timesC x0 x1)) ∧
 ((false = Prod.snd (timesC x0 x1)) ∧
 (True)))) ∧
 ((litCmp BinOp.gtr x1 x2 = false) →
 ∀ x3 : Int,
 (x3 = litArith BinOp.mul IntKind.u64 x0 x1) →
 (True) ∧
 ((x3 = Prod.fst (timesC x0 x1)) ∧
 ((true = Prod.snd (timesC x0 x1)) ∧
 (True)))))) ∧
 ((litCmp BinOp.gtr x0 (0 : Int) = false) →
 ∀ x4 : Int,
 (x4 = litArith BinOp.mul IntKind.u64 x0 x1) →
 (True) ∧
 ((x4 = Prod.fst (timesC x0 x1)) ∧
 ((true = Prod.snd (timesC x0 x1)) ∧
     (True)))) := by
  rintro a b ⟨⟨a0, a1⟩, b0, b1⟩
  simp only [gtrT, gtrF, lssT, lssF, leqT, leqF, geqT, geqF, eqlT, eqlF, neqT, neqF, true_and, and_true, true_implies, implies_true, Bool.not_eq_true', Bool.not_eq_false', bne_iff_ne, ne_eq, not_true_eq_false, not_false_eq_true, Int.toNat_natCast, same_self, reduceCtorEq, false_implies, List.nil_append]
  unfold timesC
  have hab := Int.mul_nonneg a0 b0
  refine ⟨fun h => ⟨by omega, ?_⟩, fun h => ?_⟩
  · rintro _ rfl
    rw [quoU_ (by omega) (by omega) h]
    refine ⟨fun h1 => ?_, fun h1 => ?_⟩
    · have := (Int.ediv_lt_iff_lt_mul h).1 h1
      rw [Int.mul_comm] at this
      rw [if_neg (by omega)]; exact ⟨rfl, rfl⟩
    · have := (Int.le_ediv_iff_mul_le h).1 h1
      rw [Int.mul_comm] at this
      rintro _ rfl
      rw [mulU_ (by omega) (by omega), if_pos (by omega)]; exact ⟨rfl, rfl⟩
  · obtain rfl : a = 0 := by omega
    rintro _ rfl
    rw [mulU_ (by omega) (by omega), if_pos (by omega)]; exact ⟨rfl, rfl⟩
set_option maxRecDepth 10000 in
theorem ntimes_ok : conNTimes.ok KN Tryd.prog 70 := by
  refine Con.of_vc ([]) ([]) ([]) TT_ok follows Tryd.func70 ?_ G66_ok (@toVC _ _ ntimes_vc ?_)
  · kernel_rfl
  · kernel_rfl
noncomputable def G67 : List (FuncId × Con) := (70, conNTimes) :: G66
theorem G67_ok : GOK KN Tryd.prog G67 := GOK.cons (Callable.of Tryd.func70 (by kernel_rfl) (by kernel_rfl)) ntimes_ok G66_ok

set_option maxRecDepth 10000 in
theorem nnext_vc :
  ∀ x0 : Int,
 ∀ x1 : Int,
 ∀ x2 : Int,
 ((u64ok x0) ∧
 ((u64ok x1) ∧
 (u64ok x2))) →
 ((litCmp BinOp.eql x1 (0 : Int) = true) →
 (True) ∧
 (((0 : Int) = Prod.fst (nextC x0 x1 x2)) ∧
 (((0 : Int) = Prod.fst (Prod.snd (nextC x0 x1 x2))) ∧
 ((false = Prod.snd (Prod.snd (nextC x0 x1 x2))) ∧
 (True))))) ∧
 ((litCmp BinOp.eql x1 (0 : Int) = false) →
 ((u64ok x2) ∧
 (u64ok x0)) ∧
 (True →
 (x1 ≠ (0 : Int)) ∧
 (∀ x3 : Int,
 (x3 = litArith BinOp.quo IntKind.u64 (minusC x2 x0) x1) →
 ∀ x4 : Int,
 (x4 = litArith BinOp.add IntKind.u64 x3 (1 : Int)) →
 ((litCmp BinOp.eql x4 (0 : Int) = true) →
 (True) ∧
 (((0 : Int) = Prod.fst (nextC x0 x1 x2)) ∧
 (((0 : Int) = Prod.fst (Prod.snd (nextC x0 x1 x2))) ∧
 ((false = Prod.snd (Prod.snd (nextC x0 x1 x2))) ∧
 (True))))) ∧
 ((litCmp BinOp.eql x4 (0 : Int) = false) →
 ((u64ok x4) ∧
 (u64ok x1)) ∧
 (True →
 (((!Prod.snd (timesC x4 x1)) = true) →
 (True) ∧
 (((0 : Int) = Prod.fst (nextC x0 x1 x2)) ∧
 (((0 : Int) = Prod.fst (Prod.snd (nextC x0 x1 x2))) ∧
 ((false = Prod.snd (Prod.snd (nextC x0 x1 x2))) ∧
 (True))))) ∧
 (((!Prod.snd (timesC x4 x1)) = false) →
 ((u64ok x0) ∧
 (u64ok (Prod.fst (timesC x4 x1)))) ∧
 (True →
 (((!Prod.snd (addC x0 (Prod.fst (timesC x4 x1)))) = true) →
 (True) ∧
 (((0 : Int) = Prod.fst (nextC x0 x1 x2)) ∧
 (((0 : Int) = Prod.fst (Prod.snd (nextC x0 x1 x2))) ∧
 ((false = Prod.snd (Prod.snd (nextC x0 x1 x2))) ∧
 (True))))) ∧
 (((!Prod.snd (addC x0 (Prod.fst (timesC x4 x1)))) = false) →
 (True) ∧
 ((Prod.fst (addC x0 (Prod.fst (timesC x4 x1))) = Prod.fst (nextC x0 x1 x2)) ∧
 ((x4 = Prod.fst (Prod.snd (nextC x0 x1 x2))) ∧
 ((true = Prod.snd (Prod.snd (nextC x0 x1 x2))) ∧
             (True)))))))))))) := by
  rintro d p e ⟨hd, hp, he⟩
  simp only [gtrT, gtrF, lssT, lssF, leqT, leqF, geqT, geqF, eqlT, eqlF, neqT, neqF, true_and, and_true, true_implies, implies_true, Bool.not_eq_true', Bool.not_eq_false', bne_iff_ne, ne_eq, not_true_eq_false, not_false_eq_true, Int.toNat_natCast, same_self, reduceCtorEq, false_implies, List.nil_append]
  refine ⟨fun h => by subst h; simp [nextC], fun h => ⟨⟨he, hd⟩, h, ?_⟩⟩
  have p0 : 0 < p := by have := hp.1; omega
  have hm := minus_ok he hd
  have hme := many_eq (d := d) (p := p) he.1
  have h0 := Int.ediv_nonneg hm.1 hp.1
  have h1 := Int.ediv_le_self p hm.1
  have h2 := hm.2
  rintro _ rfl
  rw [quoU_ hm.1 hm.2 p0]
  rintro _ rfl
  generalize hn : manyC d p e = n at *
  by_cases c : n < 18446744073709551616
  · have e1 : litArith .add .u64 (minusC e d / p) 1 = n := by rw [addU_ (by omega) (by omega)]; omega
    rw [e1]
    have hnp := Int.mul_nonneg (show 0 ≤ n by omega) hp.1
    refine ⟨fun hz => by omega, fun _ => ⟨⟨⟨by omega, c⟩, hp⟩, ?_⟩⟩
    unfold timesC
    by_cases c2 : n * p < 18446744073709551616
    · rw [if_pos c2]
      refine ⟨(fun hz => by cases hz), fun _ => ⟨⟨hd, hnp, c2⟩, ?_⟩⟩
      unfold addC
      by_cases c3 : d + n * p < 18446744073709551616
      · rw [if_pos c3, next_yes h (by rw [hn]; exact ⟨c3, c⟩), hn]
        exact ⟨(fun hz => by cases hz), fun _ => ⟨rfl, rfl, rfl⟩⟩
      · rw [if_neg c3, next_no (by rw [hn]; exact fun q => c3 q.1)]
        exact ⟨fun _ => ⟨rfl, rfl, rfl⟩, fun hz => by cases hz⟩
    · rw [if_neg c2, next_no (by rw [hn]; exact fun q => c2 (by have := hd.1; omega))]
      exact ⟨fun _ => ⟨rfl, rfl, rfl⟩, fun hz => by cases hz⟩
  · have e1 : litArith .add .u64 (minusC e d / p) 1 = 0 := by
      show (minusC e d / p + 1) % 18446744073709551616 = 0
      omega
    rw [e1, next_no (by rw [hn]; exact fun q => c q.2)]
    exact ⟨fun _ => ⟨rfl, rfl, rfl⟩, fun hz => absurd rfl hz⟩
set_option maxRecDepth 10000 in
theorem nnext_ok : conNNext.ok KN Tryd.prog 43 := by
  refine Con.of_vc ([]) ([]) ([]) TT_ok follows Tryd.func43 ?_ G67_ok (@toVC _ _ nnext_vc ?_)
  · kernel_rfl
  · kernel_rfl
noncomputable def G68 : List (FuncId × Con) := (43, conNNext) :: G67
theorem G68_ok : GOK KN Tryd.prog G68 := GOK.cons (Callable.of Tryd.func43 (by kernel_rfl) (by kernel_rfl)) nnext_ok G67_ok

set_option maxRecDepth 10000 in
theorem wsum_vc :
  ∀ x0 : Int,
 ∀ x1 : Int,
 ((u64ok x0) ∧
 (u64ok x1)) →
 ∀ x2 : Int,
 (x2 = litArith BinOp.and IntKind.u64 x0 (4294967295 : Int)) →
 ∀ x3 : Int,
 (x3 = litArith BinOp.and IntKind.u64 x1 (4294967295 : Int)) →
 ∀ x4 : Int,
 (x4 = litArith BinOp.add IntKind.u64 x2 x3) →
 ∀ x5 : Int,
 (x5 = litArith BinOp.shr IntKind.u64 x0 (32 : Int)) →
 ∀ x6 : Int,
 (x6 = litArith BinOp.shr IntKind.u64 x1 (32 : Int)) →
 ∀ x7 : Int,
 (x7 = litArith BinOp.add IntKind.u64 x5 x6) →
 ∀ x8 : Int,
 (x8 = litArith BinOp.shr IntKind.u64 x4 (32 : Int)) →
 ∀ x9 : Int,
 (x9 = litArith BinOp.add IntKind.u64 x7 x8) →
 ∀ x10 : Int,
 (x10 = litArith BinOp.shr IntKind.u64 x9 (32 : Int)) →
 ∀ x11 : Int,
 (x11 = litArith BinOp.shl IntKind.u64 x9 (32 : Int)) →
 ∀ x12 : Int,
 (x12 = litArith BinOp.and IntKind.u64 x4 (4294967295 : Int)) →
 ∀ x13 : Int,
 (x13 = litArith BinOp.or IntKind.u64 x11 x12) →
 ∀ x14 : (Int × Int),
 (x14 = (x10, x13)) →
 (True) ∧
 ((x14 = wide (x0 + x1)) ∧
   (True)) := by
  rintro a b ⟨⟨a0, a1⟩, b0, b1⟩
  simp only [gtrT, gtrF, lssT, lssF, leqT, leqF, geqT, geqF, eqlT, eqlF, neqT, neqF, true_and, and_true, true_implies, implies_true, Bool.not_eq_true', Bool.not_eq_false', bne_iff_ne, ne_eq, not_true_eq_false, not_false_eq_true, Int.toNat_natCast, same_self, reduceCtorEq, false_implies, List.nil_append]
  intro x2 h2 x3 h3 x4 h4 x5 h5 x6 h6 x7 h7 x8 h8 x9 h9 x10 h10 x11 h11 x12 h12 x13 h13 x14 h14
  rw [and32_ ⟨a0, a1⟩] at h2
  rw [and32_ ⟨b0, b1⟩] at h3
  rw [addU_ (by omega) (by omega)] at h4
  rw [shr32_] at h5 h6 h8
  rw [addU_ (by omega) (by omega)] at h7
  rw [addU_ (by omega) (by omega)] at h9
  rw [shr32_] at h10
  rw [and32_ ⟨by omega, by omega⟩] at h12
  rw [h11, orsh_ (by omega) (by omega) (by omega)] at h13
  rw [h14]
  unfold wide
  refine Prod.ext ?_ ?_
  · simp only; omega
  · simp only; omega
set_option maxRecDepth 10000 in
theorem wsum_ok : conWSum.ok KN Tryd.prog 68 := by
  refine Con.of_vc ([]) ([]) ([]) TT_ok follows Tryd.func68 ?_ G68_ok (@toVC _ _ wsum_vc ?_)
  · kernel_rfl
  · kernel_rfl
noncomputable def G69 : List (FuncId × Con) := (68, conWSum) :: G68
theorem G69_ok : GOK KN Tryd.prog G69 := GOK.cons (Callable.of Tryd.func68 (by kernel_rfl) (by kernel_rfl)) wsum_ok G68_ok

set_option maxRecDepth 10000 in
theorem wprod_vc :
  ∀ x0 : Int,
 ∀ x1 : Int,
 ((u64ok x0) ∧
 (u64ok x1)) →
 ∀ x2 : Int,
 (x2 = litArith BinOp.and IntKind.u64 x0 (4294967295 : Int)) →
 ∀ x3 : Int,
 (x3 = litArith BinOp.shr IntKind.u64 x0 (32 : Int)) →
 ∀ x4 : Int,
 (x4 = litArith BinOp.and IntKind.u64 x1 (4294967295 : Int)) →
 ∀ x5 : Int,
 (x5 = litArith BinOp.shr IntKind.u64 x1 (32 : Int)) →
 ∀ x6 : Int,
 (x6 = litArith BinOp.mul IntKind.u64 x3 x4) →
 ∀ x7 : Int,
 (x7 = litArith BinOp.mul IntKind.u64 x2 x4) →
 ∀ x8 : Int,
 (x8 = litArith BinOp.shr IntKind.u64 x7 (32 : Int)) →
 ∀ x9 : Int,
 (x9 = litArith BinOp.add IntKind.u64 x6 x8) →
 ∀ x10 : Int,
 (x10 = litArith BinOp.mul IntKind.u64 x2 x5) →
 ∀ x11 : Int,
 (x11 = litArith BinOp.and IntKind.u64 x9 (4294967295 : Int)) →
 ∀ x12 : Int,
 (x12 = litArith BinOp.add IntKind.u64 x10 x11) →
 ∀ x13 : Int,
 (x13 = litArith BinOp.mul IntKind.u64 x3 x5) →
 ∀ x14 : Int,
 (x14 = litArith BinOp.shr IntKind.u64 x9 (32 : Int)) →
 ∀ x15 : Int,
 (x15 = litArith BinOp.add IntKind.u64 x13 x14) →
 ∀ x16 : Int,
 (x16 = litArith BinOp.shr IntKind.u64 x12 (32 : Int)) →
 ∀ x17 : Int,
 (x17 = litArith BinOp.add IntKind.u64 x15 x16) →
 ∀ x18 : Int,
 (x18 = litArith BinOp.shl IntKind.u64 x12 (32 : Int)) →
 ∀ x19 : Int,
 (x19 = litArith BinOp.mul IntKind.u64 x2 x4) →
 ∀ x20 : Int,
 (x20 = litArith BinOp.and IntKind.u64 x19 (4294967295 : Int)) →
 ∀ x21 : Int,
 (x21 = litArith BinOp.or IntKind.u64 x18 x20) →
 ∀ x22 : (Int × Int),
 (x22 = (x17, x21)) →
 (True) ∧
 ((x22 = wide (x0 * x1)) ∧
   (True)) := by
  rintro a b ⟨⟨a0, a1⟩, b0, b1⟩
  simp only [gtrT, gtrF, lssT, lssF, leqT, leqF, geqT, geqF, eqlT, eqlF, neqT, neqF, true_and, and_true, true_implies, implies_true, Bool.not_eq_true', Bool.not_eq_false', bne_iff_ne, ne_eq, not_true_eq_false, not_false_eq_true, Int.toNat_natCast, same_self, reduceCtorEq, false_implies, List.nil_append]
  rintro _ rfl _ rfl _ rfl _ rfl
  rw [and32_ ⟨a0, a1⟩, and32_ ⟨b0, b1⟩, shr32_, shr32_]
  have ea : a = a / 4294967296 * 4294967296 + a % 4294967296 := by omega
  have eb : b = b / 4294967296 * 4294967296 + b % 4294967296 := by omega
  have q0 : 0 ≤ a % 4294967296 ∧ a % 4294967296 ≤ 4294967295 := by omega
  have q1 : 0 ≤ a / 4294967296 ∧ a / 4294967296 ≤ 4294967295 := by omega
  have q2 : 0 ≤ b % 4294967296 ∧ b % 4294967296 ≤ 4294967295 := by omega
  have q3 : 0 ≤ b / 4294967296 ∧ b / 4294967296 ≤ 4294967295 := by omega
  generalize a % 4294967296 = al at *
  generalize a / 4294967296 = ah at *
  generalize b % 4294967296 = bl at *
  generalize b / 4294967296 = bh at *
  have hbd : ∀ {x y : Int}, 0 ≤ x ∧ x ≤ 4294967295 → 0 ≤ y ∧ y ≤ 4294967295 → 0 ≤ x * y ∧ x * y ≤ 18446744065119617025 := fun hx hy => ⟨Int.mul_nonneg hx.1 hy.1, by
    have := Int.mul_le_mul hx.2 hy.2 hy.1 (by decide)
    simpa using this⟩
  have k1 := hbd q1 q2
  have k2 := hbd q0 q2
  have k3 := hbd q0 q3
  have k4 := hbd q1 q3
  have hprod : a * b = ah * bh * 18446744073709551616 + (ah * bl + al * bh) * 4294967296 + al * bl := by
    rw [ea, eb]
    simp only [Int.add_mul, Int.mul_add]
    have r1 : ah * 4294967296 * (bh * 4294967296) = ah * bh * 18446744073709551616 := by
      rw [Int.mul_assoc, Int.mul_comm 4294967296, Int.mul_assoc bh, ← Int.mul_assoc]; rfl
    have r2 : ah * 4294967296 * bl = ah * bl * 4294967296 := by rw [Int.mul_assoc, Int.mul_comm 4294967296, ← Int.mul_assoc]
    have r3 : al * (bh * 4294967296) = al * bh * 4294967296 := by rw [← Int.mul_assoc]
    rw [r1, r2, r3]
    omega
  rw [hprod]
  intro x6 h6 x7 h7 x8 h8 x9 h9 x10 h10 x11 h11 x12 h12 x13 h13 x14 h14 x15 h15 x16 h16 x17 h17 x18 h18 x19 h19 x20 h20 x21 h21 x22 h22
  rw [mulU_ k1.1 (by omega)] at h6
  rw [mulU_ k2.1 (by omega)] at h7 h19
  rw [mulU_ k3.1 (by omega)] at h10
  rw [mulU_ k4.1 (by omega)] at h13
  generalize ah * bl = Q at *
  generalize al * bl = P at *
  generalize al * bh = R at *
  generalize ah * bh = S at *
  rw [shr32_] at h8
  rw [addU_ (by omega) (by omega)] at h9
  rw [and32_ ⟨by omega, by omega⟩] at h11
  rw [addU_ (by omega) (by omega)] at h12
  rw [shr32_] at h14
  rw [addU_ (by omega) (by omega)] at h15
  rw [shr32_] at h16
  rw [addU_ (by omega) (by omega)] at h17
  rw [and32_ ⟨by omega, by omega⟩] at h20
  rw [h18, orsh_ (by omega) (by omega) (by omega)] at h21
  rw [h22]
  clear hprod ea eb hbd
  unfold wide
  refine Prod.ext ?_ ?_
  · simp only; omega
  · simp only; omega
set_option maxRecDepth 10000 in
theorem wprod_ok : conWProd.ok KN Tryd.prog 67 := by
  refine Con.of_vc ([]) ([]) ([]) TT_ok follows Tryd.func67 ?_ G69_ok (@toVC _ _ wprod_vc ?_)
  · kernel_rfl
  · kernel_rfl
noncomputable def G70 : List (FuncId × Con) := (67, conWProd) :: G69
theorem G70_ok : GOK KN Tryd.prog G70 := GOK.cons (Callable.of Tryd.func67 (by kernel_rfl) (by kernel_rfl)) wprod_ok G69_ok

set_option maxRecDepth 10000 in
theorem dnext_vc :
  ∀ x0 : Int,
 ∀ x1 : Int,
 ∀ x2 : Int,
 ((u64ok x0) ∧
 ((u64ok x1) ∧
 (u64ok x2))) →
 ((litCmp BinOp.eql x1 (0 : Int) = true) →
 (True) ∧
 (((0 : Int) = Prod.fst (nextC x0 x1 x2)) ∧
 (((0 : Int) = Prod.fst (Prod.snd (nextC x0 x1 x2))) ∧
 ((false = Prod.snd (Prod.snd (nextC x0 x1 x2))) ∧
 (True))))) ∧
 ((litCmp BinOp.eql x1 (0 : Int) = false) →
 ((litCmp BinOp.gtr x2 x0 = true) →
 ∀ x3 : Int,
 (x3 = litArith BinOp.sub IntKind.u64 x2 x0) →
 (x1 ≠ (0 : Int)) ∧
 (∀ x4 : Int,
 (x4 = litArith BinOp.quo IntKind.u64 x3 x1) →
 ((litCmp BinOp.eql x4 (18446744073709551615 : Int) = true) →
 (True) ∧
 (((0 : Int) = Prod.fst (nextC x0 x1 x2)) ∧
 (((0 : Int) = Prod.fst (Prod.snd (nextC x0 x1 x2))) ∧
 ((false = Prod.snd (Prod.snd (nextC x0 x1 x2))) ∧
 (True))))) ∧
 ((litCmp BinOp.eql x4 (18446744073709551615 : Int) = false) →
 ∀ x5 : Int,
 (x5 = litArith BinOp.add IntKind.u64 x4 (1 : Int)) →
 ((u64ok x5) ∧
 (u64ok x1)) ∧
 (True →
 ∀ x6 : (Int × Int),
 (x6 = wide (x5 * x1)) →
 ((u64ok x0) ∧
 (u64ok (Prod.snd x6))) ∧
 (True →
 ∀ x7 : (Int × Int),
 (x7 = wide (x0 + Prod.snd x6)) →
 ((litCmp BinOp.gtr (Prod.fst x6) (0 : Int) = true) →
 (True) ∧
 (((0 : Int) = Prod.fst (nextC x0 x1 x2)) ∧
 (((0 : Int) = Prod.fst (Prod.snd (nextC x0 x1 x2))) ∧
 ((false = Prod.snd (Prod.snd (nextC x0 x1 x2))) ∧
 (True))))) ∧
 ((litCmp BinOp.gtr (Prod.fst x6) (0 : Int) = false) →
 ((litCmp BinOp.gtr (Prod.fst x7) (0 : Int) = true) →
 (True) ∧
 (((0 : Int) = Prod.fst (nextC x0 x1 x2)) ∧
 (((0 : Int) = Prod.fst (Prod.snd (nextC x0 x1 x2))) ∧
 ((false = Prod.snd (Prod.snd (nextC x0 x1 x2))) ∧
 (True))))) ∧
 ((litCmp BinOp.gtr (Prod.fst x7) (0 : Int) = false) →
 (True) ∧
 ((Prod.snd x7 = Prod.fst (nextC x0 x1 x2)) ∧
 ((x5 = Prod.fst (Prod.snd (nextC x0 x1 x2))) ∧
 ((true = Prod.snd (Prod.snd (nextC x0 x1 x2))) ∧
 (True))))))))))) ∧
 ((litCmp BinOp.gtr x2 x0 = false) →
 ((u64ok (1 : Int)) ∧
 (u64ok x1)) ∧
 (True →
 ∀ x8 : (Int × Int),
 (x8 = wide ((1 : Int) * x1)) →
 ((u64ok x0) ∧
 (u64ok (Prod.snd x8))) ∧
 (True →
 ∀ x9 : (Int × Int),
 (x9 = wide (x0 + Prod.snd x8)) →
 ((litCmp BinOp.gtr (Prod.fst x8) (0 : Int) = true) →
 (True) ∧
 (((0 : Int) = Prod.fst (nextC x0 x1 x2)) ∧
 (((0 : Int) = Prod.fst (Prod.snd (nextC x0 x1 x2))) ∧
 ((false = Prod.snd (Prod.snd (nextC x0 x1 x2))) ∧
 (True))))) ∧
 ((litCmp BinOp.gtr (Prod.fst x8) (0 : Int) = false) →
 ((litCmp BinOp.gtr (Prod.fst x9) (0 : Int) = true) →
 (True) ∧
 (((0 : Int) = Prod.fst (nextC x0 x1 x2)) ∧
 (((0 : Int) = Prod.fst (Prod.snd (nextC x0 x1 x2))) ∧
 ((false = Prod.snd (Prod.snd (nextC x0 x1 x2))) ∧
 (True))))) ∧
 ((litCmp BinOp.gtr (Prod.fst x9) (0 : Int) = false) →
 (True) ∧
 ((Prod.snd x9 = Prod.fst (nextC x0 x1 x2)) ∧
 (((1 : Int) = Prod.fst (Prod.snd (nextC x0 x1 x2))) ∧
 ((true = Prod.snd (Prod.snd (nextC x0 x1 x2))) ∧
           (True)))))))))) := by
  rintro d p e ⟨hd, hp, he⟩
  simp only [gtrT, gtrF, lssT, lssF, leqT, leqF, geqT, geqF, eqlT, eqlF, neqT, neqF, true_and, and_true, true_implies, implies_true, Bool.not_eq_true', Bool.not_eq_false', bne_iff_ne, ne_eq, not_true_eq_false, not_false_eq_true, Int.toNat_natCast, same_self, reduceCtorEq, false_implies, List.nil_append]
  refine ⟨fun h => by subst h; simp [nextC], fun h => ?_⟩
  have p0 : 0 < p := by have := hp.1; omega
  have hm1 := many_pos he hd p0
  have fin : ∀ n : Int, n = manyC d p e → n < 18446744073709551616 → (u64ok n ∧ u64ok p) ∧ ∀ w : Int × Int, w = wide (n * p) → (u64ok d ∧ u64ok w.2) ∧ ∀ w2 : Int × Int, w2 = wide (d + w.2) →
      (0 < w.1 → 0 = (nextC d p e).1 ∧ 0 = (nextC d p e).2.1 ∧ false = (nextC d p e).2.2) ∧ (w.1 ≤ 0 → (0 < w2.1 → 0 = (nextC d p e).1 ∧ 0 = (nextC d p e).2.1 ∧ false = (nextC d p e).2.2) ∧ (w2.1 ≤ 0 → w2.2 = (nextC d p e).1 ∧ n = (nextC d p e).2.1 ∧ true = (nextC d p e).2.2)) := by
    intro n hn c
    have hnp := Int.mul_nonneg (show 0 ≤ n by omega) hp.1
    refine ⟨⟨⟨by omega, c⟩, hp⟩, ?_⟩
    rintro _ rfl
    have d0 := hd.1; have d1 := hd.2
    unfold wide u64ok
    simp only
    generalize hq : n * p = q at *
    refine ⟨⟨hd, by omega, by omega⟩, ?_⟩
    rintro _ rfl
    simp only
    refine ⟨fun h1 => ?_, fun h1 => ⟨fun h2 => ?_, fun h2 => ?_⟩⟩
    · rw [next_no (by rw [← hn, hq]; omega)]; exact ⟨rfl, rfl, rfl⟩
    · rw [next_no (by rw [← hn, hq]; omega)]; exact ⟨rfl, rfl, rfl⟩
    · rw [next_yes h (by rw [← hn, hq]; omega), ← hn, hq]
      exact ⟨by omega, rfl, rfl⟩
  refine ⟨fun hlt => ?_, fun hge => ?_⟩
  · rintro _ rfl
    rw [subU_ (by have := hd.1; omega) (by have := he.2; have := hd.1; omega)]
    refine ⟨h, ?_⟩
    rintro _ rfl
    have e0 : 0 ≤ e - d := by omega
    have e1 : e - d < 18446744073709551616 := by have := he.2; have := hd.1; omega
    rw [quoU_ e0 e1 p0]
    have hme : manyC d p e = (e - d) / p + 1 := by unfold manyC; rw [if_pos hlt]
    have h0 := Int.ediv_nonneg e0 hp.1
    have h1 := Int.ediv_le_self p e0
    refine ⟨fun hz => ?_, fun hz => ?_⟩
    · rw [next_no (by rw [hme]; omega)]; exact ⟨rfl, rfl, rfl⟩
    · rintro _ rfl
      rw [addU_ (by omega) (by omega)]
      exact fin _ hme.symm (by omega)
  · have hme : manyC d p e = 1 := by unfold manyC; rw [if_neg (by omega)]; rfl
    exact fin 1 hme.symm (by decide)
set_option maxRecDepth 10000 in
theorem dnext_ok : conDNext.ok KN Tryd.prog 42 := by
  refine Con.of_vc ([]) ([]) ([]) TT_ok follows Tryd.func42 ?_ G70_ok (@toVC _ _ dnext_vc ?_)
  · kernel_rfl
  · kernel_rfl
noncomputable def G71 : List (FuncId × Con) := (42, conDNext) :: G70
theorem G71_ok : GOK KN Tryd.prog G71 := GOK.cons (Callable.of Tryd.func42 (by kernel_rfl) (by kernel_rfl)) dnext_ok G70_ok

set_option maxRecDepth 10000 in
theorem dsame_vc :
  ∀ x0 : List Int,
 ∀ x1 : List Int,
 (List.length x0 ≤ (1000000 : Nat)) →
 ((litCmp BinOp.neq (↑(List.length x0) : Int) (↑(List.length x1) : Int) = true) →
 (True) ∧
 ((false = same x0 x1) ∧
 (True))) ∧
 ((litCmp BinOp.neq (↑(List.length x0) : Int) (↑(List.length x1) : Int) = false) →
 ∃ x2 : Int → Prop,
 ∃ x3 : Int → Nat,
 (x2 (0 : Int)) ∧
 (∀ x4 : Int,
 (x2 x4) →
 ((litCmp BinOp.lss x4 (↑(List.length x0) : Int) = true) →
 (((0 : Int) ≤ x4) ∧
 (x4 < (↑(List.length x1) : Int))) ∧
 ((((0 : Int) ≤ x4) ∧
 (x4 < (↑(List.length x0) : Int))) ∧
 (((litCmp BinOp.neq (ix x0 x4) (ix x1 x4) = true) →
 (True) ∧
 ((false = same x0 x1) ∧
 (True))) ∧
 ((litCmp BinOp.neq (ix x0 x4) (ix x1 x4) = false) →
 ∀ x5 : Int,
 (x5 = litArith BinOp.add IntKind.i64 x4 (1 : Int)) →
 (x0 = x0) ∧
 (((↑(List.length x0) : Int) = (↑(List.length x0) : Int)) ∧
 ((x1 = x1) ∧
 (((↑(List.length x1) : Int) = (↑(List.length x1) : Int)) ∧
 ((x2 x5) ∧
 (x3 x5 < x3 x4))))))))) ∧
 ((litCmp BinOp.lss x4 (↑(List.length x0) : Int) = false) →
 (True) ∧
 ((true = same x0 x1) ∧
      (True))))) := by
  intro a b hbig
  have no : a ≠ b → false = same a b := fun h => by
    cases hs : same a b with
    | false => rfl
    | true => exact absurd (same_iff.1 hs) h
  simp only [gtrT, gtrF, lssT, lssF, leqT, leqF, geqT, geqF, eqlT, eqlF, neqT, neqF, true_and, and_true, true_implies, implies_true, Bool.not_eq_true', Bool.not_eq_false', bne_iff_ne, ne_eq, not_true_eq_false, not_false_eq_true, Int.toNat_natCast, same_self, reduceCtorEq, false_implies, List.nil_append]
  refine ⟨fun h => no (fun e => h (by rw [e])), fun h => ?_⟩
  have hlen : a.length = b.length := by omega
  refine ⟨fun k => 0 ≤ k ∧ k ≤ a.length ∧ a.take k.toNat = b.take k.toNat, fun k => ((a.length : Int) - k).toNat, ⟨by omega, by omega, by simp⟩, ?_⟩
  rintro k ⟨h0, h1, h2⟩
  refine ⟨fun hk => ?_, fun hk => ?_⟩
  · refine ⟨⟨h0, by omega⟩, ⟨h0, hk⟩, fun hs => no (fun e => ?_), fun hs => ?_⟩
    · subst e; exact hs rfl
    · rintro _ rfl
      rw [addI_ (by omega) (by omega)]
      exact ⟨⟨by omega, by omega, by rw [take_ix h0 hk, take_ix h0 (by omega), h2, hs]⟩, meas hk⟩
  · have : k = a.length := by omega
    subst this
    rw [Int.toNat_natCast, List.take_length, List.take_of_length_le (by omega)] at h2
    subst h2
    exact (same_self a).symm
set_option maxRecDepth 10000 in
theorem dsame_ok : conSame3.ok KN Tryd.prog 20 := by
  refine Con.of_vc ([(0, ⟨[], [(5, .d (.i .i64))], [], [], []⟩)]) ([]) ([]) TT_ok follows Tryd.func20 ?_ G71_ok (@toVC _ _ dsame_vc ?_)
  · kernel_rfl
  · kernel_rfl
noncomputable def G72 : List (FuncId × Con) := (20, conSame3) :: G71
theorem G72_ok : GOK KN Tryd.prog G72 := GOK.cons (Callable.of Tryd.func20 (by kernel_rfl) (by kernel_rfl)) dsame_ok G71_ok
end Go.Proofs.YtplefbcgpbdkfaaDoor
/- Package nightjarref08: the plain law. -/
namespace Go.Proofs.YtplefbcgpbdkfaaDoor
open Go Go.Fx
theorem isB_iff {b : Bo} {k : Int} : isB b k = true ↔ 0 ≤ k ∧ k < b.1.length ∧ (ix b.1 k).1 = true := by unfold isB; simp
theorem take_ixA {α : Type} [Inhabited α] {l : List α} {k : Int} (h0 : 0 ≤ k) (h1 : k < l.length) : l.take (k + 1).toNat = l.take k.toNat ++ [ix l k] := by
  obtain ⟨h, e⟩ := ix_lt h0 h1
  rw [show (k + 1).toNat = k.toNat + 1 from by omega, List.take_add_one, List.getElem?_eq_getElem h, e]
  rfl
theorem cntB_step {l : List Tm} {k : Int} (h0 : 0 ≤ k) (h1 : k < l.length) : cntB (l.take (k + 1).toNat) = ((cntB (l.take k.toNat)).1 + (if (ix l k).1 then 1 else 0), (cntB (l.take k.toNat)).2 + (if (ix l k).2.1 = 1 then 1 else 0)) := by
  rw [take_ixA h0 h1]
  unfold cntB
  rw [List.filter_append, List.filter_append, List.length_append, List.length_append]
  refine Prod.ext ?_ ?_
  · by_cases c : (ix l k).1 = true
    · simp [c]
    · simp [c]
  · by_cases c : (ix l k).2.1 = 1
    · simp [c]
    · simp [c]
theorem cntB_le (l : List Tm) : 0 ≤ (cntB l).1 ∧ (cntB l).1 ≤ l.length ∧ 0 ≤ (cntB l).2 ∧ (cntB l).2 ≤ l.length := by
  unfold cntB
  have h1 := List.length_filter_le (fun t : Tm => t.1) l
  have h2 := List.length_filter_le (fun t : Tm => decide (t.2.1 = 1)) l
  simp only
  omega
theorem firstB {q : Int → Bool} {n k : Int} (hn : 0 ≤ n) (h0 : 0 ≤ k) (h1 : k < n) (hq : q k = true) (hp : ∀ j, 0 ≤ j → j < k → q j = false) : NextP q 0 n k true := .inl ⟨rfl, by omega, h1, hq, fun j j0 j1 => hp j (by omega) j1⟩
section
variable {l : List Tm} {now : Int}
abbrev mks (l : List Tm) : List Mk := l.map mkT
theorem ix_mks {k : Int} (h0 : 0 ≤ k) (h1 : k < l.length) : ix (mks l) k = mkT (ix l k) := ix_map h0 h1
theorem due_yes {k : Int} (h0 : 0 ≤ k) (h1 : k < l.length) (hs : (ix l k).2.1 = 1) (ha : (ix l k).2.2.2.1 ≤ now) : dueB (mks l) now k = true := by
  unfold dueB; rw [ix_mks h0 h1]; unfold mkT; rw [if_pos hs]; simp [ha]
theorem due_no {k : Int} (h0 : 0 ≤ k) (h1 : k < l.length) (hs : (ix l k).2.1 ≠ 1) : dueB (mks l) now k = false := by
  unfold dueB; rw [ix_mks h0 h1]; unfold mkT; rw [if_neg hs]; rfl
theorem due_late {k : Int} (h0 : 0 ≤ k) (h1 : k < l.length) (ha : now < (ix l k).2.2.2.1) : dueB (mks l) now k = false := by
  unfold dueB; rw [ix_mks h0 h1]; unfold mkT
  split
  · simp; omega
  · rfl
theorem due_state {k : Int} (h0 : 0 ≤ k) (h1 : k < l.length) (h : dueB (mks l) now k = true) : (ix l k).2.1 = 1 := by
  by_cases c : (ix l k).2.1 = 1
  · exact c
  · rw [due_no h0 h1 c] at h; cases h
theorem aheadB_iff {k x : Int} (k0 : 0 ≤ k) (k1 : k < l.length) (x0 : 0 ≤ x) (hx : x < k) (hk : (ix l k).2.1 = 1) (hxs : (ix l x).2.1 = 1) : aheadB (ix l k) (ix l x) = true ↔ ltM (mkAt (mks l)) k x := by
  unfold ltM mkAt aheadB
  rw [ix_mks k0 k1, ix_mks x0 (by omega)]
  unfold mkT
  rw [if_pos hk, if_pos hxs]
  simp only [Bool.or_eq_true, Bool.and_eq_true, decide_eq_true_eq]
  omega
/-- Some timers are due now. -/
def toL (l : List Tm) (ks : List Int) : List Tm := ks.foldl (fun l k => l.set k.toNat (dueT (ix l k))) l
theorem toL_length : ∀ {ks : List Int} {l : List Tm}, (toL l ks).length = l.length
  | [], l => rfl
  | k :: ks, l => by
    show (toL (l.set k.toNat (dueT (ix l k))) ks).length = _
    rw [toL_length, List.length_set]
theorem dueT_dueT (t : Tm) : dueT (dueT t) = dueT t := rfl
theorem toL_get : ∀ {ks : List Int} {l : List Tm} {i : Nat}, (∀ k ∈ ks, 0 ≤ k) → (toL l ks)[i]? = if (i : Int) ∈ ks then (l[i]?).map dueT else l[i]?
  | [], l, i, _ => by simp [toL]
  | k :: ks, l, i, h => by
    have h0 := h k (by simp)
    show (toL (l.set k.toNat (dueT (ix l k))) ks)[i]? = _
    rw [toL_get (fun k' hk => h k' (by simp [hk]))]
    by_cases e : (i : Int) = k
    · subst e
      simp only [List.mem_cons, true_or, if_true, Int.toNat_natCast]
      by_cases hi : i < l.length
      · have e2 : ix l (i : Int) = l[i] := by
          obtain ⟨_, e3⟩ := ix_lt (l := l) (k := (i : Int)) (by omega) (by omega)
          rw [e3]; simp
        rw [List.getElem?_set_self hi, List.getElem?_eq_getElem hi, e2]
        split <;> rfl
      · rw [List.getElem?_eq_none (by rw [List.length_set]; omega), List.getElem?_eq_none (by omega)]
        split <;> rfl
    · have e2 : ¬ k.toNat = i := by omega
      simp only [List.mem_cons, e, false_or, List.getElem?_set, if_neg e2]
theorem toL_snoc (l : List Tm) (ks : List Int) (k : Int) : toL l (ks ++ [k]) = (toL l ks).set k.toNat (dueT (ix (toL l ks) k)) := by simp [toL]
theorem toL_eq {ks : List Int} (h : ∀ k, k ∈ ks ↔ k ∈ dueN (mks l) now l.length) : toL l ks = l.map fun t => if (mkT t).1 && decide ((mkT t).2.1 ≤ now) then dueT t else t := by
  apply List.ext_getElem?
  intro i
  rw [toL_get (fun k hk => (dueN_mem.1 ((h k).1 hk)).1), List.getElem?_map]
  by_cases hi : i < l.length
  · rw [List.getElem?_eq_getElem hi]
    have e : ((i : Int) ∈ ks) ↔ dueB (mks l) now i = true := by rw [h, dueN_mem]; exact ⟨fun h => h.2.2, fun h => ⟨by omega, by omega, h⟩⟩
    have e2 : ix l (i : Int) = l[i] := by
      obtain ⟨_, e3⟩ := ix_lt (l := l) (k := (i : Int)) (by omega) (by omega)
      rw [e3]; simp
    unfold dueB at e
    rw [ix_mks (by omega) (by omega), e2] at e
    simp only [Option.map_some]
    by_cases c : (mkT l[i]).1 && decide ((mkT l[i]).2.1 ≤ now)
    · rw [if_pos (e.2 c), if_pos c]
    · rw [if_neg (fun q => c (e.1 q)), if_neg c]
  · rw [List.getElem?_eq_none (by omega)]
    simp
end
end Go.Proofs.YtplefbcgpbdkfaaDoor
/- Package nightjarref08: the code keeps the contracts. -/
namespace Go.Proofs.YtplefbcgpbdkfaaDoor
open Go Go.Fx
-- ENV: KN

set_option maxRecDepth 10000 in
theorem dnew_vc :
  ∀ x0 : Int,
 ∀ x1 : Int,
 (((0 : Int) ≤ x0) ∧
 (x0 ≤ (4096 : Int))) →
 (((0 : Int) ≤ x0) ∧
 (x0 * (48 : Int) ≤ (140737488355328 : Int))) ∧
 ((True) ∧
 (((List.replicate (Int.toNat x0) (false, (0 : Int), (0 : Int), (0 : Int), (0 : Int), (0 : Int)), (0 : Int), x1) = (List.replicate (Int.toNat x0) noTm, (0 : Int), x1)) ∧
    (True))) := by
  rintro n now ⟨h0, h1⟩
  exact ⟨⟨h0, by omega⟩, trivial, rfl, trivial⟩
set_option maxRecDepth 10000 in
theorem dnew_ok : conDNew.ok KN Tryd.prog 10 := by
  refine Con.of_vc ([]) ([]) ([]) TT_ok follows Tryd.func10 ?_ G72_ok (@toVC _ _ dnew_vc ?_)
  · kernel_rfl
  · kernel_rfl
noncomputable def G73 : List (FuncId × Con) := (10, conDNew) :: G72
theorem G73_ok : GOK KN Tryd.prog G73 := GOK.cons (Callable.of Tryd.func10 (by kernel_rfl) (by kernel_rfl)) dnew_ok G72_ok

set_option maxRecDepth 10000 in
theorem dis_vc :
  ∀ x0 : (List (Bool × (Int × (Int × (Int × (Int × Int))))) × (Int × Int)),
 ∀ x1 : Int,
 True →
 ((litCmp BinOp.geq x1 (0 : Int) = true) →
 ((litCmp BinOp.lss x1 (↑(List.length (Prod.fst x0)) : Int) = true) →
 (((0 : Int) ≤ x1) ∧
 (x1 < (↑(List.length (Prod.fst x0)) : Int))) ∧
 ((True) ∧
 ((Prod.fst (ix (Prod.fst x0) x1) = isB x0 x1) ∧
 (True)))) ∧
 ((litCmp BinOp.lss x1 (↑(List.length (Prod.fst x0)) : Int) = false) →
 (True) ∧
 ((false = isB x0 x1) ∧
 (True)))) ∧
 ((litCmp BinOp.geq x1 (0 : Int) = false) →
 (True) ∧
 ((false = isB x0 x1) ∧
    (True))) := by
  intro b k _
  simp only [gtrT, gtrF, lssT, lssF, leqT, leqF, geqT, geqF, eqlT, eqlF, neqT, neqF, true_and, and_true, true_implies, implies_true, Bool.not_eq_true', Bool.not_eq_false', bne_iff_ne, ne_eq, not_true_eq_false, not_false_eq_true, Int.toNat_natCast, same_self, reduceCtorEq, false_implies, List.nil_append]
  unfold isB
  refine ⟨fun c0 => ⟨fun c1 => ⟨⟨c0, c1⟩, ?_⟩, fun c1 => ?_⟩, fun c0 => ?_⟩
  · simp [c0, c1]
  · simp; omega
  · simp; omega
set_option maxRecDepth 10000 in
theorem dis_ok : conDIs.ok KN Tryd.prog 33 := by
  refine Con.of_vc ([]) ([]) ([]) TT_ok follows Tryd.func33 ?_ G73_ok (@toVC _ _ dis_vc ?_)
  · kernel_rfl
  · kernel_rfl
noncomputable def G74 : List (FuncId × Con) := (33, conDIs) :: G73
theorem G74_ok : GOK KN Tryd.prog G74 := GOK.cons (Callable.of Tryd.func33 (by kernel_rfl) (by kernel_rfl)) dis_ok G73_ok

set_option maxRecDepth 10000 in
theorem dwith_vc :
  ∀ x0 : (List (Bool × (Int × (Int × (Int × (Int × Int))))) × (Int × Int)),
 ∀ x1 : Int,
 ∀ x2 : (Bool × (Int × (Int × (Int × (Int × Int))))),
 (((0 : Int) ≤ x1) ∧
 ((x1 < (↑(List.length (Prod.fst x0)) : Int)) ∧
 (List.length (Prod.fst x0) ≤ (4096 : Nat)))) →
 (((0 : Int) ≤ (↑(List.length (Prod.fst x0)) : Int)) ∧
 ((↑(List.length (Prod.fst x0)) : Int) * (48 : Int) ≤ (140737488355328 : Int))) ∧
 (∀ x3 : List (Bool × Int × Int × Int × Int × Int),
 (x3 = [] ++ Prod.fst x0) →
 (((0 : Int) ≤ x1) ∧
 (x1 < (↑(List.length (Prod.fst x0)) : Int))) ∧
 (∀ x4 : List (Bool × Int × Int × Int × Int × Int),
 (x4 = List.set x3 (Int.toNat x1) x2) →
 (True) ∧
 (((x4, Prod.fst (Prod.snd x0), Prod.snd (Prod.snd x0)) = withB x0 x1 x2) ∧
     (True)))) := by
  rintro b k t ⟨h0, h1, h2⟩
  refine ⟨⟨by omega, by omega⟩, ?_⟩
  rintro _ rfl
  refine ⟨⟨h0, h1⟩, ?_⟩
  rintro _ rfl
  exact ⟨trivial, rfl, trivial⟩
set_option maxRecDepth 10000 in
theorem dwith_ok : conDWith.ok KN Tryd.prog 31 := by
  refine Con.of_vc ([]) ([]) ([]) TT_ok follows Tryd.func31 ?_ G74_ok (@toVC _ _ dwith_vc ?_)
  · kernel_rfl
  · kernel_rfl
noncomputable def G75 : List (FuncId × Con) := (31, conDWith) :: G74
theorem G75_ok : GOK KN Tryd.prog G75 := GOK.cons (Callable.of Tryd.func31 (by kernel_rfl) (by kernel_rfl)) dwith_ok G74_ok

set_option maxRecDepth 10000 in
theorem dmake_vc :
  ∀ x0 : (List (Bool × (Int × (Int × (Int × (Int × Int))))) × (Int × Int)),
 (List.length (Prod.fst x0) ≤ (4096 : Nat)) →
 ∃ x1 : Int → Prop,
 ∃ x2 : Int → Nat,
 (x1 (0 : Int)) ∧
 (∀ x3 : Int,
 (x1 x3) →
 ((litCmp BinOp.lss x3 (↑(List.length (Prod.fst x0)) : Int) = true) →
 (((0 : Int) ≤ x3) ∧
 (x3 < (↑(List.length (Prod.fst x0)) : Int))) ∧
 ((((!Prod.fst (ix (Prod.fst x0) x3)) = true) →
 (((0 : Int) ≤ x3) ∧
 ((x3 < (↑(List.length (Prod.fst x0)) : Int)) ∧
 (List.length (Prod.fst x0) ≤ (4096 : Nat)))) ∧
 (True →
 ∀ x4 : (List (Bool × (Int × (Int × (Int × (Int × Int))))) × (Int × Int)),
 (x4 = withB x0 x3 (true, (0 : Int), (0 : Int), (0 : Int), (0 : Int), (0 : Int))) →
 ∃ x5 : Int,
 ∃ x6 : Bool,
 (NextP (fun (i : Int) => !Prod.fst (ix (Prod.fst x0) i)) (0 : Int) (↑(List.length (Prod.fst x0)) : Int) x5 x6) ∧
 ((x4 = makeB x0 x5 x6) ∧
 ((x3 = x5) ∧
 ((true = x6) ∧
 (True)))))) ∧
 (((!Prod.fst (ix (Prod.fst x0) x3)) = false) →
 ∀ x7 : Int,
 (x7 = litArith BinOp.add IntKind.i64 x3 (1 : Int)) →
 (x0 = x0) ∧
 ((x1 x7) ∧
 (x2 x7 < x2 x3))))) ∧
 ((litCmp BinOp.lss x3 (↑(List.length (Prod.fst x0)) : Int) = false) →
 ∀ x8 : (List (Bool × (Int × (Int × (Int × (Int × Int))))) × (Int × Int)),
 (x8 = x0) →
 ∃ x9 : Int,
 ∃ x10 : Bool,
 (NextP (fun (i : Int) => !Prod.fst (ix (Prod.fst x0) i)) (0 : Int) (↑(List.length (Prod.fst x0)) : Int) x9 x10) ∧
 ((x8 = makeB x0 x9 x10) ∧
 (((0 : Int) = x9) ∧
 ((false = x10) ∧
       (True)))))) := by
  intro b hb
  simp only [gtrT, gtrF, lssT, lssF, leqT, leqF, geqT, geqF, eqlT, eqlF, neqT, neqF, true_and, and_true, true_implies, implies_true, Bool.not_eq_true', Bool.not_eq_false', bne_iff_ne, ne_eq, not_true_eq_false, not_false_eq_true, Int.toNat_natCast, same_self, reduceCtorEq, false_implies, List.nil_append]
  refine ⟨fun k => 0 ≤ k ∧ k ≤ b.1.length ∧ ∀ j, 0 ≤ j → j < k → (!(ix b.1 j).1) = false, fun k => ((b.1.length : Int) - k).toNat, ⟨by omega, by omega, fun j j0 j1 => by omega⟩, ?_⟩
  rintro k ⟨k0, k1, hp⟩
  refine ⟨fun hk => ⟨⟨k0, hk⟩, fun hi => ⟨⟨k0, hk, hb⟩, ?_⟩, fun hi => ?_⟩, fun hk => ?_⟩
  · rintro _ rfl
    exact ⟨k, true, firstB (by omega) k0 hk (by simpa using hi) hp, rfl, rfl, rfl⟩
  · rintro _ rfl
    rw [addI_ (by omega) (by omega)]
    refine ⟨⟨by omega, by omega, fun j j0 j1 => ?_⟩, meas hk⟩
    by_cases e : j = k
    · subst e; simpa using hi
    · exact hp j j0 (by omega)
  · rintro _ rfl
    exact ⟨0, false, .inr ⟨rfl, rfl, fun j j0 j1 => hp j (by omega) (by omega)⟩, rfl, rfl, rfl⟩
set_option maxRecDepth 10000 in
theorem dmake_ok : conDMake.ok KN Tryd.prog 11 := by
  refine Con.of_vc ([(0, ⟨[], [(5, .d (.i .i64))], [], [], []⟩)]) ([]) ([]) TT_ok follows Tryd.func11 ?_ G75_ok (@toVC _ _ dmake_vc ?_)
  · kernel_rfl
  · kernel_rfl
noncomputable def G76 : List (FuncId × Con) := (11, conDMake) :: G75
theorem G76_ok : GOK KN Tryd.prog G76 := GOK.cons (Callable.of Tryd.func11 (by kernel_rfl) (by kernel_rfl)) dmake_ok G75_ok

set_option maxRecDepth 10000 in
theorem dfree_vc :
  ∀ x0 : (List (Bool × (Int × (Int × (Int × (Int × Int))))) × (Int × Int)),
 ∀ x1 : Int,
 (List.length (Prod.fst x0) ≤ (4096 : Nat)) →
 (True) ∧
 (True →
 (((!isB x0 x1) = true) →
 ∀ x2 : (List (Bool × (Int × (Int × (Int × (Int × Int))))) × (Int × Int)),
 (x2 = x0) →
 (True) ∧
 ((x2 = freeB x0 x1) ∧
 ((false = isB x0 x1) ∧
 (True)))) ∧
 (((!isB x0 x1) = false) →
 (((0 : Int) ≤ x1) ∧
 ((x1 < (↑(List.length (Prod.fst x0)) : Int)) ∧
 (List.length (Prod.fst x0) ≤ (4096 : Nat)))) ∧
 (True →
 ∀ x3 : (List (Bool × (Int × (Int × (Int × (Int × Int))))) × (Int × Int)),
 (x3 = withB x0 x1 (false, (0 : Int), (0 : Int), (0 : Int), (0 : Int), (0 : Int))) →
 (True) ∧
 ((x3 = freeB x0 x1) ∧
 ((true = isB x0 x1) ∧
       (True)))))) := by
  intro b k hb
  refine ⟨trivial, fun _ => ⟨fun h => ?_, fun h => ?_⟩⟩
  · have h : isB b k = false := by simpa using h
    rintro _ rfl
    exact ⟨trivial, by unfold freeB; rw [h]; rfl, h.symm, trivial⟩
  · have h : isB b k = true := by simpa using h
    obtain ⟨k0, k1, _⟩ := isB_iff.1 h
    refine ⟨⟨k0, k1, hb⟩, fun _ => ?_⟩
    rintro _ rfl
    exact ⟨trivial, by unfold freeB; rw [h]; rfl, h.symm, trivial⟩
set_option maxRecDepth 10000 in
theorem dfree_ok : conDFree.ok KN Tryd.prog 13 := by
  refine Con.of_vc ([]) ([]) ([]) TT_ok follows Tryd.func13 ?_ G76_ok (@toVC _ _ dfree_vc ?_)
  · kernel_rfl
  · kernel_rfl
noncomputable def G77 : List (FuncId × Con) := (13, conDFree) :: G76
theorem G77_ok : GOK KN Tryd.prog G77 := GOK.cons (Callable.of Tryd.func13 (by kernel_rfl) (by kernel_rfl)) dfree_ok G76_ok

set_option maxRecDepth 10000 in
theorem darm_vc :
  ∀ x0 : (List (Bool × (Int × (Int × (Int × (Int × Int))))) × (Int × Int)),
 ∀ x1 : Int,
 ∀ x2 : Int,
 ∀ x3 : Int,
 ∀ x4 : Int,
 ((List.length (Prod.fst x0) ≤ (4096 : Nat)) ∧
 (((0 : Int) ≤ Prod.fst (Prod.snd x0)) ∧
 (Prod.fst (Prod.snd x0) < (9223372036854775807 : Int)))) →
 (True) ∧
 (True →
 (((!isB x0 x1) = true) →
 ∀ x5 : (List (Bool × (Int × (Int × (Int × (Int × Int))))) × (Int × Int)),
 (x5 = x0) →
 (True) ∧
 ((x5 = armB x0 x1 x2 x3 x4) ∧
 ((false = isB x0 x1) ∧
 (True)))) ∧
 (((!isB x0 x1) = false) →
 ∀ x6 : Int,
 (x6 = litArith BinOp.add IntKind.i64 (Prod.fst (Prod.snd x0)) (1 : Int)) →
 ∀ x7 : (List (Bool × (Int × (Int × (Int × (Int × Int))))) × (Int × Int)),
 (x7 = (Prod.fst x0, x6, Prod.snd (Prod.snd x0))) →
 (((0 : Int) ≤ x1) ∧
 ((x1 < (↑(List.length (Prod.fst x7)) : Int)) ∧
 (List.length (Prod.fst x7) ≤ (4096 : Nat)))) ∧
 (True →
 ∀ x8 : (List (Bool × (Int × (Int × (Int × (Int × Int))))) × (Int × Int)),
 (x8 = withB x7 x1 (true, (1 : Int), x2, x3, x4, Prod.fst (Prod.snd x7))) →
 (True) ∧
 ((x8 = armB x0 x1 x2 x3 x4) ∧
 ((true = isB x0 x1) ∧
       (True)))))) := by
  rintro b k h_ at_ p ⟨hb, t0, t1⟩
  refine ⟨trivial, fun _ => ⟨fun h => ?_, fun h => ?_⟩⟩
  · have h : isB b k = false := by simpa using h
    rintro _ rfl
    exact ⟨trivial, by unfold armB; rw [h]; rfl, h.symm, trivial⟩
  · have h : isB b k = true := by simpa using h
    obtain ⟨k0, k1, _⟩ := isB_iff.1 h
    rintro _ rfl
    rw [addI_ (by omega) (by omega)]
    rintro _ rfl
    refine ⟨⟨k0, k1, hb⟩, fun _ => ?_⟩
    rintro _ rfl
    exact ⟨trivial, by unfold armB; rw [h]; rfl, h.symm, trivial⟩
set_option maxRecDepth 10000 in
theorem darm_ok : conDArm.ok KN Tryd.prog 15 := by
  refine Con.of_vc ([]) ([]) ([]) TT_ok follows Tryd.func15 ?_ G77_ok (@toVC _ _ darm_vc ?_)
  · kernel_rfl
  · kernel_rfl
noncomputable def G78 : List (FuncId × Con) := (15, conDArm) :: G77
theorem G78_ok : GOK KN Tryd.prog G78 := GOK.cons (Callable.of Tryd.func15 (by kernel_rfl) (by kernel_rfl)) darm_ok G77_ok

set_option maxRecDepth 10000 in
theorem dstop_vc :
  ∀ x0 : (List (Bool × (Int × (Int × (Int × (Int × Int))))) × (Int × Int)),
 ∀ x1 : Int,
 (List.length (Prod.fst x0) ≤ (4096 : Nat)) →
 (True) ∧
 (True →
 (((!isB x0 x1) = true) →
 ∀ x2 : (List (Bool × (Int × (Int × (Int × (Int × Int))))) × (Int × Int)),
 (x2 = x0) →
 (True) ∧
 ((x2 = stopB x0 x1) ∧
 ((false = stopI x0 x1) ∧
 (True)))) ∧
 (((!isB x0 x1) = false) →
 (((0 : Int) ≤ x1) ∧
 (x1 < (↑(List.length (Prod.fst x0)) : Int))) ∧
 (∀ x3 : Int,
 (x3 = Prod.fst (Prod.snd (ix (Prod.fst x0) x1))) →
 ((litCmp BinOp.eql x3 (0 : Int) = true) →
 ∀ x4 : (List (Bool × (Int × (Int × (Int × (Int × Int))))) × (Int × Int)),
 (x4 = x0) →
 (True) ∧
 ((x4 = stopB x0 x1) ∧
 ((false = stopI x0 x1) ∧
 (True)))) ∧
 ((litCmp BinOp.eql x3 (0 : Int) = false) →
 (((0 : Int) ≤ x1) ∧
 ((x1 < (↑(List.length (Prod.fst x0)) : Int)) ∧
 (List.length (Prod.fst x0) ≤ (4096 : Nat)))) ∧
 (True →
 ∀ x5 : (List (Bool × (Int × (Int × (Int × (Int × Int))))) × (Int × Int)),
 (x5 = withB x0 x1 (true, (0 : Int), (0 : Int), (0 : Int), (0 : Int), (0 : Int))) →
 (True) ∧
 ((x5 = stopB x0 x1) ∧
 ((true = stopI x0 x1) ∧
         (True)))))))) := by
  intro b k hb
  refine ⟨trivial, fun _ => ⟨fun h => ?_, fun h => ?_⟩⟩
  · have h : isB b k = false := by simpa using h
    have hs : stopI b k = false := by unfold stopI; rw [h]; rfl
    rintro _ rfl
    exact ⟨trivial, by unfold stopB; rw [hs]; rfl, hs.symm, trivial⟩
  · have h : isB b k = true := by simpa using h
    obtain ⟨k0, k1, _⟩ := isB_iff.1 h
    refine ⟨⟨k0, k1⟩, ?_⟩
    rintro _ rfl
    simp only [gtrT, gtrF, lssT, lssF, leqT, leqF, geqT, geqF, eqlT, eqlF, neqT, neqF, true_and, and_true, true_implies, implies_true, Bool.not_eq_true', Bool.not_eq_false', bne_iff_ne, ne_eq, not_true_eq_false, not_false_eq_true, Int.toNat_natCast, same_self, reduceCtorEq, false_implies, List.nil_append]
    refine ⟨fun he => ?_, fun he => ⟨⟨k0, k1, hb⟩, ?_⟩⟩
    · have hs : stopI b k = false := by unfold stopI; rw [h, he]; rfl
      rintro _ rfl
      exact ⟨by unfold stopB; rw [hs]; rfl, hs.symm⟩
    · have hs : stopI b k = true := by unfold stopI; rw [h, decide_eq_true he]; rfl
      rintro _ rfl
      exact ⟨by unfold stopB; rw [hs]; rfl, hs.symm⟩
set_option maxRecDepth 10000 in
theorem dstop_ok : conDStop.ok KN Tryd.prog 17 := by
  refine Con.of_vc ([]) ([]) ([]) TT_ok follows Tryd.func17 ?_ G78_ok (@toVC _ _ dstop_vc ?_)
  · kernel_rfl
  · kernel_rfl
noncomputable def G79 : List (FuncId × Con) := (17, conDStop) :: G78
theorem G79_ok : GOK KN Tryd.prog G79 := GOK.cons (Callable.of Tryd.func17 (by kernel_rfl) (by kernel_rfl)) dstop_ok G78_ok

set_option maxRecDepth 10000 in
theorem dahead_vc :
  ∀ x0 : (Bool × (Int × (Int × (Int × (Int × Int))))),
 ∀ x1 : (Bool × (Int × (Int × (Int × (Int × Int))))),
 True →
 ((litCmp BinOp.lss (Prod.fst (Prod.snd (Prod.snd (Prod.snd x0)))) (Prod.fst (Prod.snd (Prod.snd (Prod.snd x1)))) = true) →
 (True) ∧
 ((true = aheadB x0 x1) ∧
 (True))) ∧
 ((litCmp BinOp.lss (Prod.fst (Prod.snd (Prod.snd (Prod.snd x0)))) (Prod.fst (Prod.snd (Prod.snd (Prod.snd x1)))) = false) →
 ((litCmp BinOp.eql (Prod.fst (Prod.snd (Prod.snd (Prod.snd x0)))) (Prod.fst (Prod.snd (Prod.snd (Prod.snd x1)))) = true) →
 (True) ∧
 ((litCmp BinOp.lss (Prod.snd (Prod.snd (Prod.snd (Prod.snd (Prod.snd x0))))) (Prod.snd (Prod.snd (Prod.snd (Prod.snd (Prod.snd x1))))) = aheadB x0 x1) ∧
 (True))) ∧
 ((litCmp BinOp.eql (Prod.fst (Prod.snd (Prod.snd (Prod.snd x0)))) (Prod.fst (Prod.snd (Prod.snd (Prod.snd x1)))) = false) →
 (True) ∧
 ((false = aheadB x0 x1) ∧
     (True)))) := by
  intro x y _
  simp only [gtrT, gtrF, lssT, lssF, leqT, leqF, geqT, geqF, eqlT, eqlF, neqT, neqF, true_and, and_true, true_implies, implies_true, Bool.not_eq_true', Bool.not_eq_false', bne_iff_ne, ne_eq, not_true_eq_false, not_false_eq_true, Int.toNat_natCast, same_self, reduceCtorEq, false_implies, List.nil_append]
  unfold aheadB
  refine ⟨fun h => by simp [h], fun h => ⟨fun h1 => ?_, fun h1 => ?_⟩⟩
  · rw [decide_eq_false (show ¬ (x.2.2.2.1 < y.2.2.2.1) by omega), decide_eq_true h1, Bool.false_or, Bool.true_and]
    rfl
  · have h2 : ¬ (x.2.2.2.1 < y.2.2.2.1) := by omega
    simp [h2, h1]
set_option maxRecDepth 10000 in
theorem dahead_ok : conDAhead.ok KN Tryd.prog 40 := by
  refine Con.of_vc ([]) ([]) ([]) TT_ok follows Tryd.func40 ?_ G79_ok (@toVC _ _ dahead_vc ?_)
  · kernel_rfl
  · kernel_rfl
noncomputable def G80 : List (FuncId × Con) := (40, conDAhead) :: G79
theorem G80_ok : GOK KN Tryd.prog G80 := GOK.cons (Callable.of Tryd.func40 (by kernel_rfl) (by kernel_rfl)) dahead_ok G79_ok

set_option maxRecDepth 10000 in
theorem dsent_vc :
  ∀ x0 : (List (Bool × (Int × (Int × (Int × (Int × Int))))) × (Int × Int)),
 ∀ x1 : Int,
 ∀ x2 : Int,
 ((List.length (Prod.fst x0) ≤ (4096 : Nat)) ∧
 (((0 : Int) ≤ Prod.fst (Prod.snd x0)) ∧
 ((Prod.fst (Prod.snd x0) < (9223372036854775807 : Int)) ∧
 ((u64ok x2) ∧
 (∀ x3 : Int,
 ((0 : Int) ≤ x3) →
 (x3 < (↑(List.length (Prod.fst x0)) : Int)) →
 TmU (ix (Prod.fst x0) x3)))))) →
 (True) ∧
 (True →
 (((!isB x0 x1) = true) →
 ∀ x4 : (List (Bool × (Int × (Int × (Int × (Int × Int))))) × (Int × Int)),
 (x4 = x0) →
 (True) ∧
 ((x4 = Prod.fst (sentB x0 x1 x2)) ∧
 (((0 : Int) = Prod.snd (sentB x0 x1 x2)) ∧
 (True)))) ∧
 (((!isB x0 x1) = false) →
 (((0 : Int) ≤ x1) ∧
 (x1 < (↑(List.length (Prod.fst x0)) : Int))) ∧
 (∀ x5 : Int,
 (x5 = Prod.fst (Prod.snd (ix (Prod.fst x0) x1))) →
 ((litCmp BinOp.neq x5 (2 : Int) = true) →
 ∀ x6 : (List (Bool × (Int × (Int × (Int × (Int × Int))))) × (Int × Int)),
 (x6 = x0) →
 (True) ∧
 ((x6 = Prod.fst (sentB x0 x1 x2)) ∧
 (((0 : Int) = Prod.snd (sentB x0 x1 x2)) ∧
 (True)))) ∧
 ((litCmp BinOp.neq x5 (2 : Int) = false) →
 (((0 : Int) ≤ x1) ∧
 (x1 < (↑(List.length (Prod.fst x0)) : Int))) ∧
 (∀ x7 : (Bool × (Int × (Int × (Int × (Int × Int))))),
 (x7 = ix (Prod.fst x0) x1) →
 ∀ x8 : (Bool × (Int × (Int × (Int × (Int × Int))))),
 (x8 = x7) →
 ((u64ok (Prod.fst (Prod.snd (Prod.snd (Prod.snd x8))))) ∧
 ((u64ok (Prod.fst (Prod.snd (Prod.snd (Prod.snd (Prod.snd x8)))))) ∧
 (u64ok x2))) ∧
 (True →
 (((!Prod.snd (Prod.snd (nextC (Prod.fst (Prod.snd (Prod.snd (Prod.snd x8)))) (Prod.fst (Prod.snd (Prod.snd (Prod.snd (Prod.snd x8))))) x2))) = true) →
 (((0 : Int) ≤ x1) ∧
 ((x1 < (↑(List.length (Prod.fst x0)) : Int)) ∧
 (List.length (Prod.fst x0) ≤ (4096 : Nat)))) ∧
 (True →
 ∀ x9 : (List (Bool × (Int × (Int × (Int × (Int × Int))))) × (Int × Int)),
 (x9 = withB x0 x1 (true, (0 : Int), (0 : Int), (0 : Int), (0 : Int), (0 : Int))) →
 (True) ∧
 ((x9 = Prod.fst (sentB x0 x1 x2)) ∧
 (((1 : Int) = Prod.snd (sentB x0 x1 x2)) ∧
 (True))))) ∧
 (((!Prod.snd (Prod.snd (nextC (Prod.fst (Prod.snd (Prod.snd (Prod.snd x8)))) (Prod.fst (Prod.snd (Prod.snd (Prod.snd (Prod.snd x8))))) x2))) = false) →
 ((List.length (Prod.fst x0) ≤ (4096 : Nat)) ∧
 (((0 : Int) ≤ Prod.fst (Prod.snd x0)) ∧
 (Prod.fst (Prod.snd x0) < (9223372036854775807 : Int)))) ∧
 (True →
 ∀ x10 : (List (Bool × (Int × (Int × (Int × (Int × Int))))) × (Int × Int)),
 (x10 = armB x0 x1 (Prod.fst (Prod.snd (Prod.snd x8))) (Prod.fst (nextC (Prod.fst (Prod.snd (Prod.snd (Prod.snd x8)))) (Prod.fst (Prod.snd (Prod.snd (Prod.snd (Prod.snd x8))))) x2)) (Prod.fst (Prod.snd (Prod.snd (Prod.snd (Prod.snd x8)))))) →
 ∀ x11 : (List (Bool × (Int × (Int × (Int × (Int × Int))))) × (Int × Int)),
 (x11 = x10) →
 (True) ∧
 ((x11 = Prod.fst (sentB x0 x1 x2)) ∧
 ((Prod.fst (Prod.snd (nextC (Prod.fst (Prod.snd (Prod.snd (Prod.snd x8)))) (Prod.fst (Prod.snd (Prod.snd (Prod.snd (Prod.snd x8))))) x2)) = Prod.snd (sentB x0 x1 x2)) ∧
            (True))))))))))) := by
  rintro b k stamp ⟨hb, t0, t1, hs, hu⟩
  refine ⟨trivial, fun _ => ⟨fun h => ?_, fun h => ?_⟩⟩
  · have h : isB b k = false := by simpa using h
    have e : sentB b k stamp = (b, 0) := by unfold sentB sentI; rw [h]; rfl
    rw [e]
    rintro _ rfl
    exact ⟨trivial, rfl, rfl, trivial⟩
  · have h : isB b k = true := by simpa using h
    obtain ⟨k0, k1, _⟩ := isB_iff.1 h
    refine ⟨⟨k0, k1⟩, ?_⟩
    rintro _ rfl
    simp only [gtrT, gtrF, lssT, lssF, leqT, leqF, geqT, geqF, eqlT, eqlF, neqT, neqF, true_and, and_true, true_implies, implies_true, Bool.not_eq_true', Bool.not_eq_false', bne_iff_ne, ne_eq, not_true_eq_false, not_false_eq_true, Int.toNat_natCast, same_self, reduceCtorEq, false_implies, List.nil_append]
    refine ⟨fun he => ?_, fun he => ⟨⟨k0, k1⟩, ?_⟩⟩
    · have e : sentB b k stamp = (b, 0) := by unfold sentB sentI; rw [h, decide_eq_false he]; rfl
      rw [e]
      rintro _ rfl
      exact ⟨rfl, rfl⟩
    · have hi : sentI b k = true := by unfold sentI; rw [h, decide_eq_true he]; rfl
      have hu := hu k k0 k1
      have e : sentB b k stamp = if (nextC (ix b.1 k).2.2.2.1 (ix b.1 k).2.2.2.2.1 stamp).2.2 then (armB b k (ix b.1 k).2.2.1 (nextC (ix b.1 k).2.2.2.1 (ix b.1 k).2.2.2.2.1 stamp).1 (ix b.1 k).2.2.2.2.1, (nextC (ix b.1 k).2.2.2.1 (ix b.1 k).2.2.2.2.1 stamp).2.1) else (withB b k idle, 1) := by
        unfold sentB; rw [if_pos hi]
      rw [e]
      rintro _ rfl _ rfl
      refine ⟨⟨hu.a, hu.p, hs⟩, fun hn => ⟨⟨k0, k1, hb⟩, ?_⟩, fun hn => ⟨⟨hb, t0, t1⟩, ?_⟩⟩
      · rw [hn]
        rintro _ rfl
        exact ⟨rfl, rfl⟩
      · rw [hn]
        rintro _ rfl _ rfl
        exact ⟨rfl, rfl⟩
set_option maxRecDepth 10000 in
theorem dsent_ok : conDSent.ok KN Tryd.prog 22 := by
  refine Con.of_vc ([]) ([]) ([]) TT_ok follows Tryd.func22 ?_ G80_ok (@toVC _ _ dsent_vc ?_)
  · kernel_rfl
  · kernel_rfl
noncomputable def G81 : List (FuncId × Con) := (22, conDSent) :: G80
theorem G81_ok : GOK KN Tryd.prog G81 := GOK.cons (Callable.of Tryd.func22 (by kernel_rfl) (by kernel_rfl)) dsent_ok G80_ok

set_option maxRecDepth 10000 in
theorem dcount_vc :
  ∀ x0 : (List (Bool × (Int × (Int × (Int × (Int × Int))))) × (Int × Int)),
 (List.length (Prod.fst x0) ≤ (4096 : Nat)) →
 ∃ x1 : Int → Int → Int → Prop,
 ∃ x2 : Int → Int → Int → Nat,
 (x1 (0 : Int) (0 : Int) (0 : Int)) ∧
 (∀ x3 : Int,
 ∀ x4 : Int,
 ∀ x5 : Int,
 (x1 x3 x4 x5) →
 ((litCmp BinOp.lss x5 (↑(List.length (Prod.fst x0)) : Int) = true) →
 (((0 : Int) ≤ x5) ∧
 (x5 < (↑(List.length (Prod.fst x0)) : Int))) ∧
 (((Prod.fst (ix (Prod.fst x0) x5) = true) →
 ∀ x6 : Int,
 (x6 = litArith BinOp.add IntKind.i64 x3 (1 : Int)) →
 (((0 : Int) ≤ x5) ∧
 (x5 < (↑(List.length (Prod.fst x0)) : Int))) ∧
 (∀ x7 : Int,
 (x7 = Prod.fst (Prod.snd (ix (Prod.fst x0) x5))) →
 ((litCmp BinOp.eql x7 (1 : Int) = true) →
 ∀ x8 : Int,
 (x8 = litArith BinOp.add IntKind.i64 x4 (1 : Int)) →
 ∀ x9 : Int,
 (x9 = litArith BinOp.add IntKind.i64 x5 (1 : Int)) →
 (x0 = x0) ∧
 ((x1 x6 x8 x9) ∧
 (x2 x6 x8 x9 < x2 x3 x4 x5))) ∧
 ((litCmp BinOp.eql x7 (1 : Int) = false) →
 ∀ x10 : Int,
 (x10 = litArith BinOp.add IntKind.i64 x5 (1 : Int)) →
 (x0 = x0) ∧
 ((x1 x6 x4 x10) ∧
 (x2 x6 x4 x10 < x2 x3 x4 x5))))) ∧
 ((Prod.fst (ix (Prod.fst x0) x5) = false) →
 (((0 : Int) ≤ x5) ∧
 (x5 < (↑(List.length (Prod.fst x0)) : Int))) ∧
 (∀ x11 : Int,
 (x11 = Prod.fst (Prod.snd (ix (Prod.fst x0) x5))) →
 ((litCmp BinOp.eql x11 (1 : Int) = true) →
 ∀ x12 : Int,
 (x12 = litArith BinOp.add IntKind.i64 x4 (1 : Int)) →
 ∀ x13 : Int,
 (x13 = litArith BinOp.add IntKind.i64 x5 (1 : Int)) →
 (x0 = x0) ∧
 ((x1 x3 x12 x13) ∧
 (x2 x3 x12 x13 < x2 x3 x4 x5))) ∧
 ((litCmp BinOp.eql x11 (1 : Int) = false) →
 ∀ x14 : Int,
 (x14 = litArith BinOp.add IntKind.i64 x5 (1 : Int)) →
 (x0 = x0) ∧
 ((x1 x3 x4 x14) ∧
 (x2 x3 x4 x14 < x2 x3 x4 x5))))))) ∧
 ((litCmp BinOp.lss x5 (↑(List.length (Prod.fst x0)) : Int) = false) →
 (True) ∧
 ((x3 = Prod.fst (cntB (Prod.fst x0))) ∧
 ((x4 = Prod.snd (cntB (Prod.fst x0))) ∧
      (True))))) := by
  intro b hb
  simp only [gtrT, gtrF, lssT, lssF, leqT, leqF, geqT, geqF, eqlT, eqlF, neqT, neqF, true_and, and_true, true_implies, implies_true, Bool.not_eq_true', Bool.not_eq_false', bne_iff_ne, ne_eq, not_true_eq_false, not_false_eq_true, Int.toNat_natCast, same_self, reduceCtorEq, false_implies, List.nil_append]
  refine ⟨fun n s k => 0 ≤ k ∧ k ≤ b.1.length ∧ n = (cntB (b.1.take k.toNat)).1 ∧ s = (cntB (b.1.take k.toNat)).2, fun n s k => ((b.1.length : Int) - k).toNat, ⟨by omega, by omega, by simp [cntB], by simp [cntB]⟩, ?_⟩
  rintro n s k ⟨k0, k1, rfl, rfl⟩
  have hc := cntB_le (b.1.take k.toNat)
  have hl : (b.1.take k.toNat).length ≤ 4096 := by rw [List.length_take]; omega
  refine ⟨fun hk => ⟨⟨k0, hk⟩, ?_⟩, fun hk => ?_⟩
  · have hst := cntB_step k0 hk
    refine ⟨fun hi => ?_, fun hi => ⟨⟨k0, hk⟩, ?_⟩⟩
    · rintro _ rfl
      refine ⟨⟨k0, hk⟩, ?_⟩
      rintro _ rfl
      rw [addI_ (x := (cntB (b.1.take k.toNat)).1) (by omega) (by omega)]
      refine ⟨fun hs => ?_, fun hs => ?_⟩
      · rintro _ rfl _ rfl
        rw [addI_ (by omega) (by omega), addI_ (x := k) (by omega) (by omega)]
        exact ⟨⟨by omega, by omega, by rw [hst]; simp [hi], by rw [hst]; simp [hs]⟩, meas hk⟩
      · rintro _ rfl
        rw [addI_ (x := k) (by omega) (by omega)]
        exact ⟨⟨by omega, by omega, by rw [hst]; simp [hi], by rw [hst]; simp [hs]⟩, meas hk⟩
    · rintro _ rfl
      refine ⟨fun hs => ?_, fun hs => ?_⟩
      · rintro _ rfl _ rfl
        rw [addI_ (by omega) (by omega), addI_ (x := k) (by omega) (by omega)]
        exact ⟨⟨by omega, by omega, by rw [hst]; simp [hi], by rw [hst]; simp [hs]⟩, meas hk⟩
      · rintro _ rfl
        rw [addI_ (x := k) (by omega) (by omega)]
        exact ⟨⟨by omega, by omega, by rw [hst]; simp [hi], by rw [hst]; simp [hs]⟩, meas hk⟩
  · have : k = b.1.length := by omega
    subst this
    rw [Int.toNat_natCast, List.take_length]
    exact ⟨rfl, rfl⟩
set_option maxRecDepth 10000 in
theorem dcount_ok : conDCount.ok KN Tryd.prog 44 := by
  refine Con.of_vc ([(0, ⟨[], [(4, .d (.i .i64)), (5, .d (.i .i64)), (6, .d (.i .i64))], [], [], []⟩)]) ([]) ([]) TT_ok follows Tryd.func44 ?_ G81_ok (@toVC _ _ dcount_vc ?_)
  · kernel_rfl
  · kernel_rfl
noncomputable def G82 : List (FuncId × Con) := (44, conDCount) :: G81
theorem G82_ok : GOK KN Tryd.prog G82 := GOK.cons (Callable.of Tryd.func44 (by kernel_rfl) (by kernel_rfl)) dcount_ok G81_ok

set_option maxRecDepth 10000 in
theorem dto_vc :
  ∀ x0 : (List (Bool × (Int × (Int × (Int × (Int × Int))))) × (Int × Int)),
 ∀ x1 : Int,
 (List.length (Prod.fst x0) ≤ (4096 : Nat)) →
 ((litCmp BinOp.gtr x1 (Prod.snd (Prod.snd x0)) = true) →
 ∀ x2 : (List (Bool × (Int × (Int × (Int × (Int × Int))))) × (Int × Int)),
 (x2 = (Prod.fst x0, Prod.fst (Prod.snd x0), x1)) →
 ∃ x3 : Int → List Int → Prop,
 ∃ x4 : Int → List Int → Nat,
 (x3 (0 : Int) []) ∧
 (∀ x5 : Int,
 ∀ x6 : List Int,
 (x3 x5 x6) →
 ((litCmp BinOp.lss x5 (↑(List.length (Prod.fst x2)) : Int) = true) →
 (((0 : Int) ≤ x5) ∧
 (x5 < (↑(List.length (Prod.fst x2)) : Int))) ∧
 (((litCmp BinOp.neq (Prod.fst (Prod.snd (ix (Prod.fst x2) x5))) (1 : Int) = true) →
 ∀ x7 : Int,
 (x7 = litArith BinOp.add IntKind.i64 x5 (1 : Int)) →
 (x2 = x2) ∧
 ((x3 x7 x6) ∧
 (x4 x7 x6 < x4 x5 x6))) ∧
 ((litCmp BinOp.neq (Prod.fst (Prod.snd (ix (Prod.fst x2) x5))) (1 : Int) = false) →
 (((0 : Int) ≤ x5) ∧
 (x5 < (↑(List.length (Prod.fst x2)) : Int))) ∧
 (((litCmp BinOp.gtr (Prod.fst (Prod.snd (Prod.snd (Prod.snd (ix (Prod.fst x2) x5))))) (Prod.snd (Prod.snd x2)) = true) →
 ∀ x8 : Int,
 (x8 = litArith BinOp.add IntKind.i64 x5 (1 : Int)) →
 (x2 = x2) ∧
 ((x3 x8 x6) ∧
 (x4 x8 x6 < x4 x5 x6))) ∧
 ((litCmp BinOp.gtr (Prod.fst (Prod.snd (Prod.snd (Prod.snd (ix (Prod.fst x2) x5))))) (Prod.snd (Prod.snd x2)) = false) →
 ∃ x9 : Int → Prop,
 ∃ x10 : Int → Nat,
 (x9 (↑(List.length x6) : Int)) ∧
 (∀ x11 : Int,
 (x9 x11) →
 ((litCmp BinOp.gtr x11 (0 : Int) = true) →
 (((0 : Int) ≤ ix x6 (litArith BinOp.sub IntKind.i64 x11 (1 : Int))) ∧
 (ix x6 (litArith BinOp.sub IntKind.i64 x11 (1 : Int)) < (↑(List.length (Prod.fst x2)) : Int))) ∧
 ((((0 : Int) ≤ litArith BinOp.sub IntKind.i64 x11 (1 : Int)) ∧
 (litArith BinOp.sub IntKind.i64 x11 (1 : Int) < (↑(List.length x6) : Int))) ∧
 ((((0 : Int) ≤ x5) ∧
 (x5 < (↑(List.length (Prod.fst x2)) : Int))) ∧
 ((True) ∧
 (True →
 ((aheadB (ix (Prod.fst x2) x5) (ix (Prod.fst x2) (ix x6 (litArith BinOp.sub IntKind.i64 x11 (1 : Int)))) = true) →
 ∀ x12 : Int,
 (x12 = litArith BinOp.sub IntKind.i64 x11 (1 : Int)) →
 (x5 = x5) ∧
 ((x5 = x5) ∧
 ((Prod.fst x2 = Prod.fst x2) ∧
 (((↑(List.length (Prod.fst x2)) : Int) = (↑(List.length (Prod.fst x2)) : Int)) ∧
 (((↑(List.length (Prod.fst x2)) : Int) = (↑(List.length (Prod.fst x2)) : Int)) ∧
 ((litCmp BinOp.lss x5 (↑(List.length (Prod.fst x2)) : Int) = litCmp BinOp.lss x5 (↑(List.length (Prod.fst x2)) : Int)) ∧
 ((Prod.fst x2 = Prod.fst x2) ∧
 (((↑(List.length (Prod.fst x2)) : Int) = (↑(List.length (Prod.fst x2)) : Int)) ∧
 ((x5 = x5) ∧
 ((Prod.fst (Prod.snd (ix (Prod.fst x2) x5)) = Prod.fst (Prod.snd (ix (Prod.fst x2) x5))) ∧
 ((litCmp BinOp.neq (Prod.fst (Prod.snd (ix (Prod.fst x2) x5))) (1 : Int) = litCmp BinOp.neq (Prod.fst (Prod.snd (ix (Prod.fst x2) x5))) (1 : Int)) ∧
 ((Prod.fst x2 = Prod.fst x2) ∧
 (((↑(List.length (Prod.fst x2)) : Int) = (↑(List.length (Prod.fst x2)) : Int)) ∧
 ((x5 = x5) ∧
 ((Prod.fst (Prod.snd (Prod.snd (Prod.snd (ix (Prod.fst x2) x5)))) = Prod.fst (Prod.snd (Prod.snd (Prod.snd (ix (Prod.fst x2) x5))))) ∧
 ((Prod.snd (Prod.snd x2) = Prod.snd (Prod.snd x2)) ∧
 ((litCmp BinOp.gtr (Prod.fst (Prod.snd (Prod.snd (Prod.snd (ix (Prod.fst x2) x5))))) (Prod.snd (Prod.snd x2)) = litCmp BinOp.gtr (Prod.fst (Prod.snd (Prod.snd (Prod.snd (ix (Prod.fst x2) x5))))) (Prod.snd (Prod.snd x2))) ∧
 ((litCmp BinOp.gtr (Prod.fst (Prod.snd (Prod.snd (Prod.snd (ix (Prod.fst x2) x5))))) (Prod.snd (Prod.snd x2)) = litCmp BinOp.gtr (Prod.fst (Prod.snd (Prod.snd (Prod.snd (ix (Prod.fst x2) x5))))) (Prod.snd (Prod.snd x2))) ∧
 (((↑(List.length x6) : Int) = (↑(List.length x6) : Int)) ∧
 ((x2 = x2) ∧
 ((x6 = x6) ∧
 (((↑(List.length x6) : Int) = (↑(List.length x6) : Int)) ∧
 ((x9 x12) ∧
 (x10 x12 < x10 x11)))))))))))))))))))))))) ∧
 ((aheadB (ix (Prod.fst x2) x5) (ix (Prod.fst x2) (ix x6 (litArith BinOp.sub IntKind.i64 x11 (1 : Int)))) = false) →
 (((0 : Int) ≤ (↑(List.length x6) : Int) - x11) ∧
 (((↑(List.length x6) : Int) - x11) * (8 : Int) ≤ (140737488355328 : Int))) ∧
 (((0 : Int) ≤ x11) ∧
 ((x11 ≤ (↑(List.length x6) : Int)) ∧
 (∀ x13 : List Int,
 (x13 = [] ++ List.take (Int.toNat ((↑(List.length x6) : Int) - x11)) (List.drop (Int.toNat x11) x6)) →
 (((0 : Int) ≤ x11 + (1 : Int)) ∧
 ((x11 + (1 : Int)) * (8 : Int) ≤ (140737488355328 : Int))) ∧
 (((0 : Int) ≤ x11) ∧
 ((x11 ≤ (↑(List.length x6) : Int)) ∧
 (∀ x14 : List Int,
 (x14 = List.take (Int.toNat x11) x6 ++ [x5]) →
 (((0 : Int) ≤ x11 + (1 : Int) + ((↑(List.length x6) : Int) - x11)) ∧
 ((x11 + (1 : Int) + ((↑(List.length x6) : Int) - x11)) * (8 : Int) ≤ (140737488355328 : Int))) ∧
 (∀ x15 : List Int,
 (x15 = x14 ++ x13) →
 ∀ x16 : Int,
 (x16 = litArith BinOp.add IntKind.i64 x5 (1 : Int)) →
 (x2 = x2) ∧
 ((x3 x16 x15) ∧
 (x4 x16 x15 < x4 x5 x6))))))))))))))) ∧
 ((litCmp BinOp.gtr x11 (0 : Int) = false) →
 (((0 : Int) ≤ (↑(List.length x6) : Int) - x11) ∧
 (((↑(List.length x6) : Int) - x11) * (8 : Int) ≤ (140737488355328 : Int))) ∧
 (((0 : Int) ≤ x11) ∧
 ((x11 ≤ (↑(List.length x6) : Int)) ∧
 (∀ x17 : List Int,
 (x17 = [] ++ List.take (Int.toNat ((↑(List.length x6) : Int) - x11)) (List.drop (Int.toNat x11) x6)) →
 (((0 : Int) ≤ x11 + (1 : Int)) ∧
 ((x11 + (1 : Int)) * (8 : Int) ≤ (140737488355328 : Int))) ∧
 (((0 : Int) ≤ x11) ∧
 ((x11 ≤ (↑(List.length x6) : Int)) ∧
 (∀ x18 : List Int,
 (x18 = List.take (Int.toNat x11) x6 ++ [x5]) →
 (((0 : Int) ≤ x11 + (1 : Int) + ((↑(List.length x6) : Int) - x11)) ∧
 ((x11 + (1 : Int) + ((↑(List.length x6) : Int) - x11)) * (8 : Int) ≤ (140737488355328 : Int))) ∧
 (∀ x19 : List Int,
 (x19 = x18 ++ x17) →
 ∀ x20 : Int,
 (x20 = litArith BinOp.add IntKind.i64 x5 (1 : Int)) →
 (x2 = x2) ∧
 ((x3 x20 x19) ∧
 (x4 x20 x19 < x4 x5 x6)))))))))))))))) ∧
 ((litCmp BinOp.lss x5 (↑(List.length (Prod.fst x2)) : Int) = false) →
 ∃ x21 : Int → (List (Bool × (Int × (Int × (Int × (Int × Int))))) × (Int × Int)) → Prop,
 ∃ x22 : Int → (List (Bool × (Int × (Int × (Int × (Int × Int))))) × (Int × Int)) → Nat,
 (x21 (0 : Int) x2) ∧
 (∀ x23 : Int,
 ∀ x24 : (List (Bool × (Int × (Int × (Int × (Int × Int))))) × (Int × Int)),
 (x21 x23 x24) →
 ((litCmp BinOp.lss x23 (↑(List.length x6) : Int) = true) →
 (((0 : Int) ≤ ix x6 x23) ∧
 (ix x6 x23 < (↑(List.length (Prod.fst x24)) : Int))) ∧
 ((((0 : Int) ≤ x23) ∧
 (x23 < (↑(List.length x6) : Int))) ∧
 (∀ x25 : (Bool × (Int × (Int × (Int × (Int × Int))))),
 (x25 = (Prod.fst (ix (Prod.fst x24) (ix x6 x23)), (2 : Int), Prod.snd (Prod.snd (ix (Prod.fst x24) (ix x6 x23))))) →
 (((0 : Int) ≤ x23) ∧
 (x23 < (↑(List.length x6) : Int))) ∧
 ((((0 : Int) ≤ ix x6 x23) ∧
 ((ix x6 x23 < (↑(List.length (Prod.fst x24)) : Int)) ∧
 (List.length (Prod.fst x24) ≤ (4096 : Nat)))) ∧
 (True →
 ∀ x26 : Int,
 (x26 = litArith BinOp.add IntKind.i64 x23 (1 : Int)) →
 (x6 = x6) ∧
 (((↑(List.length x6) : Int) = (↑(List.length x6) : Int)) ∧
 ((x21 x26 (withB x24 (ix x6 x23) x25)) ∧
 (x22 x26 (withB x24 (ix x6 x23) x25) < x22 x23 x24)))))))) ∧
 ((litCmp BinOp.lss x23 (↑(List.length x6) : Int) = false) →
 ∀ x27 : (List (Bool × (Int × (Int × (Int × (Int × Int))))) × (Int × Int)),
 (x27 = x24) →
 (True) ∧
 ((x27 = toB x0 x1) ∧
 ((x6 = outR (whB x0) x1) ∧
 (((↑(List.length x6) : Int) = (↑(List.length (outR (whB x0) x1)) : Int)) ∧
 (True))))))))) ∧
 ((litCmp BinOp.gtr x1 (Prod.snd (Prod.snd x0)) = false) →
 ∃ x28 : Int → List Int → Prop,
 ∃ x29 : Int → List Int → Nat,
 (x28 (0 : Int) []) ∧
 (∀ x30 : Int,
 ∀ x31 : List Int,
 (x28 x30 x31) →
 ((litCmp BinOp.lss x30 (↑(List.length (Prod.fst x0)) : Int) = true) →
 (((0 : Int) ≤ x30) ∧
 (x30 < (↑(List.length (Prod.fst x0)) : Int))) ∧
 (((litCmp BinOp.neq (Prod.fst (Prod.snd (ix (Prod.fst x0) x30))) (1 : Int) = true) →
 ∀ x32 : Int,
 (x32 = litArith BinOp.add IntKind.i64 x30 (1 : Int)) →
 (x0 = x0) ∧
 ((x28 x32 x31) ∧
 (x29 x32 x31 < x29 x30 x31))) ∧
 ((litCmp BinOp.neq (Prod.fst (Prod.snd (ix (Prod.fst x0) x30))) (1 : Int) = false) →
 (((0 : Int) ≤ x30) ∧
 (x30 < (↑(List.length (Prod.fst x0)) : Int))) ∧
 (((litCmp BinOp.gtr (Prod.fst (Prod.snd (Prod.snd (Prod.snd (ix (Prod.fst x0) x30))))) (Prod.snd (Prod.snd x0)) = true) →
 ∀ x33 : Int,
 (x33 = litArith BinOp.add IntKind.i64 x30 (1 : Int)) →
 (x0 = x0) ∧
 ((x28 x33 x31) ∧
 (x29 x33 x31 < x29 x30 x31))) ∧
 ((litCmp BinOp.gtr (Prod.fst (Prod.snd (Prod.snd (Prod.snd (ix (Prod.fst x0) x30))))) (Prod.snd (Prod.snd x0)) = false) →
 ∃ x34 : Int → Prop,
 ∃ x35 : Int → Nat,
 (x34 (↑(List.length x31) : Int)) ∧
 (∀ x36 : Int,
 (x34 x36) →
 ((litCmp BinOp.gtr x36 (0 : Int) = true) →
 (((0 : Int) ≤ ix x31 (litArith BinOp.sub IntKind.i64 x36 (1 : Int))) ∧
 (ix x31 (litArith BinOp.sub IntKind.i64 x36 (1 : Int)) < (↑(List.length (Prod.fst x0)) : Int))) ∧
 ((((0 : Int) ≤ litArith BinOp.sub IntKind.i64 x36 (1 : Int)) ∧
 (litArith BinOp.sub IntKind.i64 x36 (1 : Int) < (↑(List.length x31) : Int))) ∧
 ((((0 : Int) ≤ x30) ∧
 (x30 < (↑(List.length (Prod.fst x0)) : Int))) ∧
 ((True) ∧
 (True →
 ((aheadB (ix (Prod.fst x0) x30) (ix (Prod.fst x0) (ix x31 (litArith BinOp.sub IntKind.i64 x36 (1 : Int)))) = true) →
 ∀ x37 : Int,
 (x37 = litArith BinOp.sub IntKind.i64 x36 (1 : Int)) →
 (x30 = x30) ∧
 ((x30 = x30) ∧
 ((Prod.fst x0 = Prod.fst x0) ∧
 (((↑(List.length (Prod.fst x0)) : Int) = (↑(List.length (Prod.fst x0)) : Int)) ∧
 (((↑(List.length (Prod.fst x0)) : Int) = (↑(List.length (Prod.fst x0)) : Int)) ∧
 ((litCmp BinOp.lss x30 (↑(List.length (Prod.fst x0)) : Int) = litCmp BinOp.lss x30 (↑(List.length (Prod.fst x0)) : Int)) ∧
 ((Prod.fst x0 = Prod.fst x0) ∧
 (((↑(List.length (Prod.fst x0)) : Int) = (↑(List.length (Prod.fst x0)) : Int)) ∧
 ((x30 = x30) ∧
 ((Prod.fst (Prod.snd (ix (Prod.fst x0) x30)) = Prod.fst (Prod.snd (ix (Prod.fst x0) x30))) ∧
 ((litCmp BinOp.neq (Prod.fst (Prod.snd (ix (Prod.fst x0) x30))) (1 : Int) = litCmp BinOp.neq (Prod.fst (Prod.snd (ix (Prod.fst x0) x30))) (1 : Int)) ∧
 ((Prod.fst x0 = Prod.fst x0) ∧
 (((↑(List.length (Prod.fst x0)) : Int) = (↑(List.length (Prod.fst x0)) : Int)) ∧
 ((x30 = x30) ∧
 ((Prod.fst (Prod.snd (Prod.snd (Prod.snd (ix (Prod.fst x0) x30)))) = Prod.fst (Prod.snd (Prod.snd (Prod.snd (ix (Prod.fst x0) x30))))) ∧
 ((Prod.snd (Prod.snd x0) = Prod.snd (Prod.snd x0)) ∧
 ((litCmp BinOp.gtr (Prod.fst (Prod.snd (Prod.snd (Prod.snd (ix (Prod.fst x0) x30))))) (Prod.snd (Prod.snd x0)) = litCmp BinOp.gtr (Prod.fst (Prod.snd (Prod.snd (Prod.snd (ix (Prod.fst x0) x30))))) (Prod.snd (Prod.snd x0))) ∧
 ((litCmp BinOp.gtr (Prod.fst (Prod.snd (Prod.snd (Prod.snd (ix (Prod.fst x0) x30))))) (Prod.snd (Prod.snd x0)) = litCmp BinOp.gtr (Prod.fst (Prod.snd (Prod.snd (Prod.snd (ix (Prod.fst x0) x30))))) (Prod.snd (Prod.snd x0))) ∧
 (((↑(List.length x31) : Int) = (↑(List.length x31) : Int)) ∧
 ((x0 = x0) ∧
 ((x31 = x31) ∧
 (((↑(List.length x31) : Int) = (↑(List.length x31) : Int)) ∧
 ((x34 x37) ∧
 (x35 x37 < x35 x36)))))))))))))))))))))))) ∧
 ((aheadB (ix (Prod.fst x0) x30) (ix (Prod.fst x0) (ix x31 (litArith BinOp.sub IntKind.i64 x36 (1 : Int)))) = false) →
 (((0 : Int) ≤ (↑(List.length x31) : Int) - x36) ∧
 (((↑(List.length x31) : Int) - x36) * (8 : Int) ≤ (140737488355328 : Int))) ∧
 (((0 : Int) ≤ x36) ∧
 ((x36 ≤ (↑(List.length x31) : Int)) ∧
 (∀ x38 : List Int,
 (x38 = [] ++ List.take (Int.toNat ((↑(List.length x31) : Int) - x36)) (List.drop (Int.toNat x36) x31)) →
 (((0 : Int) ≤ x36 + (1 : Int)) ∧
 ((x36 + (1 : Int)) * (8 : Int) ≤ (140737488355328 : Int))) ∧
 (((0 : Int) ≤ x36) ∧
 ((x36 ≤ (↑(List.length x31) : Int)) ∧
 (∀ x39 : List Int,
 (x39 = List.take (Int.toNat x36) x31 ++ [x30]) →
 (((0 : Int) ≤ x36 + (1 : Int) + ((↑(List.length x31) : Int) - x36)) ∧
 ((x36 + (1 : Int) + ((↑(List.length x31) : Int) - x36)) * (8 : Int) ≤ (140737488355328 : Int))) ∧
 (∀ x40 : List Int,
 (x40 = x39 ++ x38) →
 ∀ x41 : Int,
 (x41 = litArith BinOp.add IntKind.i64 x30 (1 : Int)) →
 (x0 = x0) ∧
 ((x28 x41 x40) ∧
 (x29 x41 x40 < x29 x30 x31))))))))))))))) ∧
 ((litCmp BinOp.gtr x36 (0 : Int) = false) →
 (((0 : Int) ≤ (↑(List.length x31) : Int) - x36) ∧
 (((↑(List.length x31) : Int) - x36) * (8 : Int) ≤ (140737488355328 : Int))) ∧
 (((0 : Int) ≤ x36) ∧
 ((x36 ≤ (↑(List.length x31) : Int)) ∧
 (∀ x42 : List Int,
 (x42 = [] ++ List.take (Int.toNat ((↑(List.length x31) : Int) - x36)) (List.drop (Int.toNat x36) x31)) →
 (((0 : Int) ≤ x36 + (1 : Int)) ∧
 ((x36 + (1 : Int)) * (8 : Int) ≤ (140737488355328 : Int))) ∧
 (((0 : Int) ≤ x36) ∧
 ((x36 ≤ (↑(List.length x31) : Int)) ∧
 (∀ x43 : List Int,
 (x43 = List.take (Int.toNat x36) x31 ++ [x30]) →
 (((0 : Int) ≤ x36 + (1 : Int) + ((↑(List.length x31) : Int) - x36)) ∧
 ((x36 + (1 : Int) + ((↑(List.length x31) : Int) - x36)) * (8 : Int) ≤ (140737488355328 : Int))) ∧
 (∀ x44 : List Int,
 (x44 = x43 ++ x42) →
 ∀ x45 : Int,
 (x45 = litArith BinOp.add IntKind.i64 x30 (1 : Int)) →
 (x0 = x0) ∧
 ((x28 x45 x44) ∧
 (x29 x45 x44 < x29 x30 x31)))))))))))))))) ∧
 ((litCmp BinOp.lss x30 (↑(List.length (Prod.fst x0)) : Int) = false) →
 ∃ x46 : Int → (List (Bool × (Int × (Int × (Int × (Int × Int))))) × (Int × Int)) → Prop,
 ∃ x47 : Int → (List (Bool × (Int × (Int × (Int × (Int × Int))))) × (Int × Int)) → Nat,
 (x46 (0 : Int) x0) ∧
 (∀ x48 : Int,
 ∀ x49 : (List (Bool × (Int × (Int × (Int × (Int × Int))))) × (Int × Int)),
 (x46 x48 x49) →
 ((litCmp BinOp.lss x48 (↑(List.length x31) : Int) = true) →
 (((0 : Int) ≤ ix x31 x48) ∧
 (ix x31 x48 < (↑(List.length (Prod.fst x49)) : Int))) ∧
 ((((0 : Int) ≤ x48) ∧
 (x48 < (↑(List.length x31) : Int))) ∧
 (∀ x50 : (Bool × (Int × (Int × (Int × (Int × Int))))),
 (x50 = (Prod.fst (ix (Prod.fst x49) (ix x31 x48)), (2 : Int), Prod.snd (Prod.snd (ix (Prod.fst x49) (ix x31 x48))))) →
 (((0 : Int) ≤ x48) ∧
 (x48 < (↑(List.length x31) : Int))) ∧
 ((((0 : Int) ≤ ix x31 x48) ∧
 ((ix x31 x48 < (↑(List.length (Prod.fst x49)) : Int)) ∧
 (List.length (Prod.fst x49) ≤ (4096 : Nat)))) ∧
 (True →
 ∀ x51 : Int,
 (x51 = litArith BinOp.add IntKind.i64 x48 (1 : Int)) →
 (x31 = x31) ∧
 (((↑(List.length x31) : Int) = (↑(List.length x31) : Int)) ∧
 ((x46 x51 (withB x49 (ix x31 x48) x50)) ∧
 (x47 x51 (withB x49 (ix x31 x48) x50) < x47 x48 x49)))))))) ∧
 ((litCmp BinOp.lss x48 (↑(List.length x31) : Int) = false) →
 ∀ x52 : (List (Bool × (Int × (Int × (Int × (Int × Int))))) × (Int × Int)),
 (x52 = x49) →
 (True) ∧
 ((x52 = toB x0 x1) ∧
 ((x31 = outR (whB x0) x1) ∧
 (((↑(List.length x31) : Int) = (↑(List.length (outR (whB x0) x1)) : Int)) ∧
          (True))))))))) := by
  intro x0 x1 hlen
  simp only [gtrT, gtrF, lssT, lssF, leqT, leqF, geqT, geqF, eqlT, eqlF, neqT, neqF, true_and, and_true, true_implies, implies_true, Bool.not_eq_true', Bool.not_eq_false', bne_iff_ne, ne_eq, not_true_eq_false, not_false_eq_true, Int.toNat_natCast, same_self, reduceCtorEq, false_implies, List.nil_append]
  have hTO : ∀ w : Bo, w.1 = x0.1 → w.2.1 = x0.2.1 → w.2.2 = nowR (whB x0) x1 → toB x0 x1 = (w.1.map fun t => if (mkT t).1 && decide ((mkT t).2.1 ≤ w.2.2) then dueT t else t, w.2.1, w.2.2) ∧ outR (whB x0) x1 = srt (cfM (mkAt (mks w.1))) (dueN (mks w.1) w.2.2 w.1.length) := fun w e1 e2 e3 => by
    rw [e1, e2, e3]
    refine ⟨rfl, ?_⟩
    unfold outR whB
    simp only [List.length_map]
  generalize toB x0 x1 = T at hTO
  generalize outR (whB x0) x1 = O at hTO
  refine ⟨fun hgt w hw => ?_, fun hgt => ?_⟩
  obtain ⟨hT, hO⟩ := hTO w (by rw [hw]) (by rw [hw]) (by rw [hw]; exact (if_pos (show (whB x0).2 < x1 from hgt)).symm)
  have hl : w.1.length ≤ 4096 := by rw [hw]; exact hlen
  clear hTO hlen hw hgt
  rotate_left
  obtain ⟨hT, hO⟩ := hTO x0 rfl rfl (if_neg (show ¬ (whB x0).2 < x1 from Int.not_lt.2 hgt)).symm
  have hl := hlen
  clear hTO hlen hgt
  have hw : ∃ w : Bo, w = x0 := ⟨_, rfl⟩
  obtain ⟨w, hw⟩ := hw
  subst hw
  all_goals
    have hadd : ∀ n : Nat, n ≤ 4096 → litArith .add .i64 (n : Int) 1 = n + 1 := fun n hn => addI_ (by omega) (by omega)
    refine ⟨fun k out => 0 ≤ k ∧ k ≤ w.1.length ∧ out = srt (cfM (mkAt (mks w.1))) (dueN (mks w.1) w.2.2 k.toNat), fun k _ => ((w.1.length : Int) - k).toNat, ⟨Int.le_refl _, Int.natCast_nonneg _, by simp [dueN, srt]⟩, ?_⟩
    rintro k out ⟨k0, k1, hout⟩
    obtain ⟨m, rfl⟩ := Int.eq_ofNat_of_zero_le k0
    simp only [Int.toNat_natCast] at hout
    have hlo : out.length ≤ m := by rw [hout, srt_length]; exact dueN_length _ _ _
    have hmem2 : ∀ x ∈ out, x ∈ dueN (mks w.1) w.2.2 m := fun x hx => srt_mem.1 (by rw [← hout]; exact hx)
    have hsucc : ((m : Int) + 1).toNat = m + 1 := by omega
    refine ⟨fun hi => ⟨⟨k0, hi⟩, fun hn => ?_, fun hn => ⟨⟨k0, hi⟩, fun hg => ?_, fun hg => ?_⟩⟩, fun hi => ?_⟩
    · rintro _ rfl
      rw [hadd m (by omega)]
      refine ⟨⟨by omega, by omega, ?_⟩, meas hi⟩
      rw [hsucc, dueN_succ, due_no k0 hi hn, if_neg (by simp), List.append_nil]
      exact hout
    · rintro _ rfl
      rw [hadd m (by omega)]
      refine ⟨⟨by omega, by omega, ?_⟩, meas hi⟩
      rw [hsucc, dueN_succ, due_late k0 hi hg, if_neg (by simp), List.append_nil]
      exact hout
    · have hdue : dueB (mks w.1) w.2.2 m = true := due_yes k0 hi hn hg
      have hnm : (m : Int) ∉ dueN (mks w.1) w.2.2 m := fun q => by have := (dueN_mem.1 q).2.1; omega
      have fin : ∀ a : Int, 0 ≤ a → a ≤ out.length → (∀ x ∈ out.drop a.toNat, ltM (mkAt (mks w.1)) m x) → (∀ x ∈ out.take a.toNat, ltM (mkAt (mks w.1)) x m) → out.take a.toNat ++ [(m : Int)] ++ List.take ((out.length : Int) - a).toNat (out.drop a.toNat) = srt (cfM (mkAt (mks w.1))) (dueN (mks w.1) w.2.2 (m + 1)) := fun a a0 a1 h1 h0 => by
        have hdr : List.take ((out.length : Int) - a).toNat (out.drop a.toNat) = out.drop a.toNat := List.take_of_length_le (by rw [List.length_drop]; omega)
        rw [hdr, dueN_succ, if_pos hdue, hout]
        rw [hout] at h1 h0
        exact srt_put (dueN_nodup _ _ _) hnm h1 h0
      refine ⟨fun a => 0 ≤ a ∧ a ≤ out.length ∧ ∀ x ∈ out.drop a.toNat, ltM (mkAt (mks w.1)) m x, fun a => a.toNat, ⟨by omega, Int.le_refl _, by simp⟩, ?_⟩
      rintro a ⟨a0, a1, ha⟩
      refine ⟨fun hpos => ?_, fun hz => ?_⟩
      · rw [subI_ (x := a) (y := 1) (by omega) (by omega)]
        have hlt : (a - 1).toNat < out.length := by omega
        have hix : ix out (a - 1) = out[(a - 1).toNat] := by
          unfold ix
          rw [List.getD_eq_getElem?_getD, List.getElem?_eq_getElem hlt]
          rfl
        have hmem : ix out (a - 1) ∈ out := by rw [hix]; exact List.getElem_mem _
        have hd := dueN_mem.1 (hmem2 _ hmem)
        have hiff := aheadB_iff (l := w.1) k0 hi hd.1 hd.2.1 hn (due_state hd.1 (by omega) hd.2.2)
        refine ⟨⟨hd.1, by omega⟩, ⟨by omega, by omega⟩, ⟨k0, hi⟩, fun hah => ?_, fun hah => ?_⟩
        · rintro _ rfl
          refine ⟨⟨by omega, by omega, fun x hx => ?_⟩, show (a - 1).toNat < a.toNat by omega⟩
          rw [List.drop_eq_getElem_cons hlt, show (a - 1).toNat + 1 = a.toNat from by omega] at hx
          rcases List.mem_cons.1 hx with rfl | hx
          · rw [← hix]; exact hiff.1 hah
          · exact ha x hx
        · have hnot : ¬ ltM (mkAt (mks w.1)) m (ix out (a - 1)) := fun q => by rw [hiff.2 q] at hah; cases hah
          have hne : ix out (a - 1) ≠ m := by omega
          have hlt2 : ltM (mkAt (mks w.1)) (ix out (a - 1)) m := by
            by_cases q : ltM (mkAt (mks w.1)) (ix out (a - 1)) m
            · exact q
            · exact absurd (ltM.tri q hnot) hne
          have h0 : ∀ x ∈ out.take a.toNat, ltM (mkAt (mks w.1)) x m := fun x hx => by
            rw [show a.toNat = (a - 1).toNat + 1 from by omega, List.take_add_one, List.getElem?_eq_getElem hlt, Option.toList_some] at hx
            rcases List.mem_append.1 hx with hx | hx
            · have hs := srt_pair (mkAt (mks w.1)) (dueN_nodup (mks w.1) w.2.2 m)
              rw [← hout, ← List.take_append_drop (a - 1).toNat out, List.pairwise_append] at hs
              exact (hs.2.2 x hx (ix out (a - 1)) (by rw [hix, List.drop_eq_getElem_cons hlt]; exact List.mem_cons_self)).trans hlt2
            · simp only [List.mem_singleton] at hx
              rw [hx, ← hix]; exact hlt2
          refine ⟨⟨by omega, by omega⟩, a0, a1, ?_⟩
          rintro _ rfl
          refine ⟨⟨by omega, by omega⟩, a0, a1, ?_⟩
          rintro _ rfl
          refine ⟨⟨by omega, by omega⟩, ?_⟩
          rintro _ rfl _ rfl
          rw [hadd m (by omega)]
          exact ⟨⟨by omega, by omega, by rw [hsucc]; exact fin a a0 a1 ha h0⟩, meas hi⟩
      · obtain rfl : a = 0 := by omega
        refine ⟨⟨by omega, by omega⟩, a0, a1, ?_⟩
        rintro _ rfl
        refine ⟨⟨by omega, by omega⟩, a0, a1, ?_⟩
        rintro _ rfl
        refine ⟨⟨by omega, by omega⟩, ?_⟩
        rintro _ rfl _ rfl
        rw [hadd m (by omega)]
        exact ⟨⟨by omega, by omega, by rw [hsucc]; exact fin 0 a0 a1 ha (by simp)⟩, meas hi⟩
    · have hmN : m = w.1.length := by omega
      subst hmN
      have hO' : out = O := by rw [hout, hO]
      refine ⟨fun k v => 0 ≤ k ∧ k ≤ out.length ∧ v = (toL w.1 (out.take k.toNat), w.2), fun k _ => ((out.length : Int) - k).toNat, ⟨Int.le_refl _, Int.natCast_nonneg _, by simp [toL]⟩, ?_⟩
      rintro k v ⟨j0, j1, rfl⟩
      obtain ⟨j, rfl⟩ := Int.eq_ofNat_of_zero_le j0
      simp only [Int.toNat_natCast, toL_length]
      refine ⟨fun hj => ?_, fun hj => ?_⟩
      · have hlt : j < out.length := by omega
        have hix : ix out (j : Int) = out[j] := by
          unfold ix
          rw [List.getD_eq_getElem?_getD, Int.toNat_natCast, List.getElem?_eq_getElem hlt]
          rfl
        have hmem : ix out (j : Int) ∈ out := by rw [hix]; exact List.getElem_mem _
        have hd := dueN_mem.1 (hmem2 _ hmem)
        refine ⟨⟨hd.1, hd.2.1⟩, ⟨j0, hj⟩, ?_⟩
        rintro _ rfl
        refine ⟨⟨j0, hj⟩, ⟨hd.1, hd.2.1, hl⟩, ?_⟩
        rintro _ rfl
        rw [hadd j (by omega)]
        refine ⟨⟨by omega, by omega, ?_⟩, meas hj⟩
        rw [show ((j : Int) + 1).toNat = j + 1 from by omega, List.take_add_one, List.getElem?_eq_getElem hlt, Option.toList_some, toL_snoc, hix]
        rfl
      · rintro _ rfl
        have : j = out.length := by omega
        subst this
        rw [List.take_length, hT, toL_eq (fun k => by rw [hout]; exact srt_mem)]
        exact ⟨rfl, hO', by rw [hO']⟩
set_option maxRecDepth 10000 in
theorem dto_ok : conDTo.ok KN Tryd.prog 19 := by
  refine Con.of_vc ([(0, ⟨[], [(6, .is (.own 0)), (7, .d (.i .i64))], [], [0], []⟩), (2, ⟨[], [(8, .d (.i .i64))], [], [], []⟩), (4, ⟨[], [(10, .d (.i .i64))], [(0, .pk tpBo)], [], []⟩)]) ([]) ([]) TT_ok follows Tryd.func19 ?_ G82_ok (@toVC _ _ dto_vc ?_)
  · kernel_rfl
  · kernel_rfl
noncomputable def G83 : List (FuncId × Con) := (19, conDTo) :: G82
theorem G83_ok : GOK KN Tryd.prog G83 := GOK.cons (Callable.of Tryd.func19 (by kernel_rfl) (by kernel_rfl)) dto_ok G82_ok
end Go.Proofs.YtplefbcgpbdkfaaDoor
/- Package alarm: the contracts, over a book's parts. -/
namespace Go.Proofs.YtplefbcgpbdkfaaDoor
open Go Go.Fx
-- ENV: KN
abbrev vBv (turn : Int) : Var := ⟨true, .ls [.obj 0, .obj 1, u64 turn]⟩
def conAMake : Con := mkConO [.is (.lp 0 0)] [vB] [] [opG, opW] (fun (turn : Int) (d : Rg) (w : Wh) => True) [.i .i64, .bo] (fun (turn : Int) (d : Rg) (w : Wh) (k : Int) (ok : Bool) => NextP (fun i => !(ix d i).1) 0 d.length k ok) (fun (turn : Int) (d : Rg) (w : Wh) (k : Int) (ok : Bool) => .tup [i64 k, bb ok])
  (fun (turn : Int) (d : Rg) (w : Wh) (k : Int) (ok : Bool) => [vBv turn]) (constX [] _) (fun (turn : Int) (d : Rg) (w : Wh) (k : Int) (ok : Bool) => [obG (if ok then putG d k (true, noRw) else d), obW w])
def conAFree : Con := mkConO [.is (.lp 0 0), .d (.i .i64)] [vB] [] [opG, opW] (fun (k turn : Int) (d : Rg) (w : Wh) => True) [] (constX True _) (fun (k turn : Int) (d : Rg) (w : Wh) => bb (hasG d k))
  (fun (k turn : Int) (d : Rg) (w : Wh) => [vBv turn]) (constX [] _) (fun (k turn : Int) (d : Rg) (w : Wh) => [obG (if hasG d k then putG d k (false, noRw) else d), obW (if hasG d k then (unsetR w k).1 else w)])
def conALook : Con := mkConO [.is (.lp 0 0), .d (.i .i64)] [vB] [] [opG, opW] (fun (k turn : Int) (d : Rg) (w : Wh) => True) [] (constX True _) (fun (k turn : Int) (d : Rg) (w : Wh) => .tup [.x tpRw (if hasG d k then (ix d k).2 else noRw), bb (hasG d k)])
  (fun (k turn : Int) (d : Rg) (w : Wh) => [vBv turn]) (constX [] _) (fun (k turn : Int) (d : Rg) (w : Wh) => [obG d, obW w])
def conACount : Con := mkConO [.is (.lp 0 0)] [vB] [] [opG, opW] (fun (turn : Int) (d : Rg) (w : Wh) => True) [] (constX True _) (fun (turn : Int) (d : Rg) (w : Wh) => i64 (cntG d)) (fun (turn : Int) (d : Rg) (w : Wh) => [vBv turn]) (constX [] _) (fun (turn : Int) (d : Rg) (w : Wh) => [obG d, obW w])
def conAArmed : Con := mkConO [.is (.lp 0 0)] [vB] [] [opG, opW] (fun (turn : Int) (d : Rg) (w : Wh) => True) [] (constX True _) (fun (turn : Int) (d : Rg) (w : Wh) => i64 (lenR w.1)) (fun (turn : Int) (d : Rg) (w : Wh) => [vBv turn]) (constX [] _) (fun (turn : Int) (d : Rg) (w : Wh) => [obG d, obW w])
def conAArm : Con := mkConO [.is (.lp 0 0), .d (.i .i64), .d (.i .u64), .d (.i .u64), .d (.i .u64)] [vB] [] [opG, opW] (fun (k h at_ p turn : Int) (d : Rg) (w : Wh) => u64ok at_ ∧ 0 ≤ turn ∧ turn < 9223372036854775807) [] (constX True _)
  (fun (k h at_ p turn : Int) (d : Rg) (w : Wh) => bb (hasG d k && (setR (unsetR w k).1 k at_ (turn + 1)).2))
  (fun (k h at_ p turn : Int) (d : Rg) (w : Wh) => [vBv (if hasG d k then turn + 1 else turn)]) (constX [] _)
  (fun (k h at_ p turn : Int) (d : Rg) (w : Wh) => [obG (if hasG d k then putG d k (true, 1, h, at_, p) else d), obW (if hasG d k then (setR (unsetR w k).1 k at_ (turn + 1)).1 else w)])
def stopG (d : Rg) (k : Int) : Bool := hasG d k && decide ((ix d k).2.1 ≠ 0)
def conAStop : Con := mkConO [.is (.lp 0 0), .d (.i .i64)] [vB] [] [opG, opW] (fun (k turn : Int) (d : Rg) (w : Wh) => True) [] (constX True _) (fun (k turn : Int) (d : Rg) (w : Wh) => bb (stopG d k))
  (fun (k turn : Int) (d : Rg) (w : Wh) => [vBv turn]) (constX [] _) (fun (k turn : Int) (d : Rg) (w : Wh) => [obG (if stopG d k then putG d k (true, noRw) else d), obW (if stopG d k then (unsetR w k).1 else w)])
def dueG (d : Rg) (k : Int) : Rg := if hasG d k then putG d k (true, 2, (ix d k).2.2) else d
def toG (d : Rg) (ks : List Int) : Rg := ks.foldl dueG d
def conATo : Con := mkConO [.is (.lp 0 0), .d (.i .u64)] [vB] [] [opG, opW] (fun (to turn : Int) (d : Rg) (w : Wh) => u64ok to ∧ w.1.length ≤ 4096) [] (constX True _) (constX (.own 0) _) (fun (to turn : Int) (d : Rg) (w : Wh) => [vBv turn])
  (fun (to turn : Int) (d : Rg) (w : Wh) => [mkRow 3 (.i .i64) (outR w to)]) (fun (to turn : Int) (d : Rg) (w : Wh) => [obG (toG d (outR w to)), obW (toR w to)])
def sentG (d : Rg) (k : Int) : Bool := hasG d k && decide ((ix d k).2.1 = 2)
structure RwU (r : Rw) : Prop where
  h : u64ok r.2.1
  a : u64ok r.2.2.1
  p : u64ok r.2.2.2
def conASent : Con := mkConO [.is (.lp 0 0), .d (.i .i64), .d (.i .u64)] [vB] [] [opG, opW] (fun (k stamp turn : Int) (d : Rg) (w : Wh) => 0 ≤ turn ∧ turn < 9223372036854775807 ∧ u64ok stamp ∧ (hasG d k = true → RwU (ix d k).2)) [] (constX True _)
  (fun (k stamp turn : Int) (d : Rg) (w : Wh) => u64 (if sentG d k then (if (nextC (ix d k).2.2.2.1 (ix d k).2.2.2.2 stamp).2.2 then (nextC (ix d k).2.2.2.1 (ix d k).2.2.2.2 stamp).2.1 else 1) else 0))
  (fun (k stamp turn : Int) (d : Rg) (w : Wh) => [vBv (if sentG d k then (if (nextC (ix d k).2.2.2.1 (ix d k).2.2.2.2 stamp).2.2 then turn + 1 else turn) else turn)]) (constX [] _)
  (fun (k stamp turn : Int) (d : Rg) (w : Wh) => [
    obG (if sentG d k then (if (nextC (ix d k).2.2.2.1 (ix d k).2.2.2.2 stamp).2.2 then putG d k (true, 1, (ix d k).2.2.1, (nextC (ix d k).2.2.2.1 (ix d k).2.2.2.2 stamp).1, (ix d k).2.2.2.2) else putG d k (true, noRw)) else d),
    obW (if sentG d k then (if (nextC (ix d k).2.2.2.1 (ix d k).2.2.2.2 stamp).2.2 then (setR (unsetR w k).1 k (nextC (ix d k).2.2.2.1 (ix d k).2.2.2.2 stamp).1 (turn + 1)).1 else w) else w)])
def conANew : Con := mkConO [.is (.obj 0), .d (.i .u64)] [] [] [opG] (fun (now : Int) (d : Rg) => u64ok now) [] (constX True _) (constX (.lp 0 0) _) (fun (now : Int) (d : Rg) => [⟨true, .ls [.obj 0, .obj 1, u64 0]⟩]) (constX [] _)
  (fun (now : Int) (d : Rg) => [obG d, obW (List.replicate (cut4096 d.length) (false, 0, 0), now)])
theorem next_u64 {d p e : Int} (hd : u64ok d) (hp : u64ok p) (he : u64ok e) : u64ok (nextC d p e).1 := by
  by_cases c : d + manyC d p e * p < 18446744073709551616 ∧ manyC d p e < 18446744073709551616
  · by_cases p0 : p = 0
    · subst p0; unfold nextC; rw [if_pos rfl]; exact ⟨by decide, by decide⟩
    · rw [next_yes p0 c]
      have hm := many_pos he hd (show 0 < p by have := hp.1; omega)
      have := Int.mul_nonneg (show 0 ≤ manyC d p e by omega) hp.1
      have := hd.1
      exact ⟨by simp only; omega, c.1⟩
  · rw [next_no c]; exact ⟨by decide, by decide⟩
end Go.Proofs.YtplefbcgpbdkfaaDoor
/- Package alarm: the code keeps the contracts. -/
namespace Go.Proofs.YtplefbcgpbdkfaaDoor
open Go Go.Fx
-- ENV: KN

set_option maxRecDepth 10000 in
theorem anew_vc :
  ∀ x0 : Int,
 ∀ x1 : List (Bool × (Int × (Int × (Int × Int)))),
 (u64ok x0) →
 (True) ∧
 (True →
 (u64ok x0) ∧
 (True →
 (True) ∧
 (((0 : Int) = (0 : Int)) ∧
 ((x1 = x1) ∧
 (((List.replicate (cut4096 (↑(List.length x1) : Int)) (false, (0 : Int), (0 : Int)), x0) = (List.replicate (cut4096 (↑(List.length x1) : Int)) (false, (0 : Int), (0 : Int)), x0)) ∧
       (True)))))) := by
  intro now d h
  exact ⟨trivial, fun _ => ⟨h, fun _ => ⟨trivial, rfl, rfl, rfl, trivial⟩⟩⟩
set_option maxRecDepth 10000 in
theorem anew_ok : conANew.ok KN Tryd.prog 30 := by
  refine Con.of_vc ([]) ([]) ([]) TT_ok follows Tryd.func30 ?_ G83_ok (@toVC _ _ anew_vc ?_)
  · kernel_rfl
  · kernel_rfl
noncomputable def G84 : List (FuncId × Con) := (30, conANew) :: G83
theorem G84_ok : GOK KN Tryd.prog G84 := GOK.cons (Callable.of Tryd.func30 (by kernel_rfl) (by kernel_rfl)) anew_ok G83_ok

set_option maxRecDepth 10000 in
theorem amake_vc :
  ∀ x0 : Int,
 ∀ x1 : List (Bool × (Int × (Int × (Int × Int)))),
 ∀ x2 : (List (Bool × (Int × Int)) × Int),
 True →
 (True) ∧
 (∀ x3 : Int,
 ∀ x4 : Bool,
 (NextP (fun (i : Int) => !Prod.fst (ix x1 i)) (0 : Int) (↑(List.length x1) : Int) x3 x4) →
 ∃ x5 : Int,
 ∃ x6 : Bool,
 (NextP (fun (i : Int) => !Prod.fst (ix x1 i)) (0 : Int) (↑(List.length x1) : Int) x5 x6) ∧
 ((x3 = x5) ∧
 ((x4 = x6) ∧
 ((x0 = x0) ∧
 (((if x4 = true then putG x1 x3 (true, (0 : Int), (0 : Int), (0 : Int), (0 : Int)) else x1) = if x6 = true then putG x1 x5 (true, noRw) else x1) ∧
 ((x2 = x2) ∧
        (True))))))) := by
  intro turn d w _
  refine ⟨trivial, fun k ok hn => ?_⟩
  first
  | exact ⟨k, ok, hn, rfl, rfl, rfl, rfl, rfl, trivial⟩
  | simp_all
set_option maxRecDepth 10000 in
theorem amake_ok : conAMake.ok KN Tryd.prog 12 := by
  refine Con.of_vc ([]) ([]) ([]) TT_ok follows Tryd.func12 ?_ G84_ok (@toVC _ _ amake_vc ?_)
  · kernel_rfl
  · kernel_rfl
noncomputable def G85 : List (FuncId × Con) := (12, conAMake) :: G84
theorem G85_ok : GOK KN Tryd.prog G85 := GOK.cons (Callable.of Tryd.func12 (by kernel_rfl) (by kernel_rfl)) amake_ok G84_ok

set_option maxRecDepth 10000 in
theorem afree_vc :
  ∀ x0 : Int,
 ∀ x1 : Int,
 ∀ x2 : List (Bool × (Int × (Int × (Int × Int)))),
 ∀ x3 : (List (Bool × (Int × Int)) × Int),
 True →
 (True) ∧
 (True →
 (((!hasG x2 x0) = true) →
 (True) ∧
 ((false = hasG x2 x0) ∧
 ((x1 = x1) ∧
 ((x2 = if hasG x2 x0 = true then putG x2 x0 (false, noRw) else x2) ∧
 ((x3 = if hasG x2 x0 = true then Prod.fst (unsetR x3 x0) else x3) ∧
 (True)))))) ∧
 (((!hasG x2 x0) = false) →
 (True) ∧
 (True →
 (True) ∧
 (True →
 (True) ∧
 ((hasG x2 x0 = hasG x2 x0) ∧
 ((x1 = x1) ∧
 (((if hasG x2 x0 = true then putG x2 x0 (false, noRw) else x2) = if hasG x2 x0 = true then putG x2 x0 (false, noRw) else x2) ∧
 ((Prod.fst (unsetR x3 x0) = if hasG x2 x0 = true then Prod.fst (unsetR x3 x0) else x3) ∧
          (True))))))))) := by
  intro k turn d w _
  refine ⟨trivial, fun _ => ⟨fun h => ?_, fun h => ?_⟩⟩
  · have h : hasG d k = false := by simpa using h
    simp [h]
  · have h : hasG d k = true := by simpa using h
    simp [h]
set_option maxRecDepth 10000 in
theorem afree_ok : conAFree.ok KN Tryd.prog 14 := by
  refine Con.of_vc ([]) ([]) ([]) TT_ok follows Tryd.func14 ?_ G85_ok (@toVC _ _ afree_vc ?_)
  · kernel_rfl
  · kernel_rfl
noncomputable def G86 : List (FuncId × Con) := (14, conAFree) :: G85
theorem G86_ok : GOK KN Tryd.prog G86 := GOK.cons (Callable.of Tryd.func14 (by kernel_rfl) (by kernel_rfl)) afree_ok G85_ok

set_option maxRecDepth 10000 in
theorem alook_vc :
  ∀ x0 : Int,
 ∀ x1 : Int,
 ∀ x2 : List (Bool × (Int × (Int × (Int × Int)))),
 ∀ x3 : (List (Bool × (Int × Int)) × Int),
 True →
 (True) ∧
 (True →
 ∀ x4 : (Int × (Int × (Int × Int))),
 (x4 = if hasG x2 x0 = true then Prod.snd (ix x2 x0) else noRw) →
 (True) ∧
 ((x4 = if hasG x2 x0 = true then Prod.snd (ix x2 x0) else noRw) ∧
 ((hasG x2 x0 = hasG x2 x0) ∧
 ((x1 = x1) ∧
 ((x2 = x2) ∧
 ((x3 = x3) ∧
        (True))))))) := by
  intro k turn d w _
  simp
set_option maxRecDepth 10000 in
theorem alook_ok : conALook.ok KN Tryd.prog 25 := by
  refine Con.of_vc ([]) ([]) ([]) TT_ok follows Tryd.func25 ?_ G86_ok (@toVC _ _ alook_vc ?_)
  · kernel_rfl
  · kernel_rfl
noncomputable def G87 : List (FuncId × Con) := (25, conALook) :: G86
theorem G87_ok : GOK KN Tryd.prog G87 := GOK.cons (Callable.of Tryd.func25 (by kernel_rfl) (by kernel_rfl)) alook_ok G86_ok

set_option maxRecDepth 10000 in
theorem acount_vc :
  ∀ x0 : Int,
 ∀ x1 : List (Bool × (Int × (Int × (Int × Int)))),
 ∀ x2 : (List (Bool × (Int × Int)) × Int),
 True →
 (True) ∧
 (True →
 (True) ∧
 ((cntG x1 = cntG x1) ∧
 ((x0 = x0) ∧
 ((x1 = x1) ∧
 ((x2 = x2) ∧
       (True)))))) := by
  intro turn d w _
  simp
set_option maxRecDepth 10000 in
theorem acount_ok : conACount.ok KN Tryd.prog 27 := by
  refine Con.of_vc ([]) ([]) ([]) TT_ok follows Tryd.func27 ?_ G87_ok (@toVC _ _ acount_vc ?_)
  · kernel_rfl
  · kernel_rfl
noncomputable def G88 : List (FuncId × Con) := (27, conACount) :: G87
theorem G88_ok : GOK KN Tryd.prog G88 := GOK.cons (Callable.of Tryd.func27 (by kernel_rfl) (by kernel_rfl)) acount_ok G87_ok

set_option maxRecDepth 10000 in
theorem aarmed_vc :
  ∀ x0 : Int,
 ∀ x1 : List (Bool × (Int × (Int × (Int × Int)))),
 ∀ x2 : (List (Bool × (Int × Int)) × Int),
 True →
 (True) ∧
 (True →
 (True) ∧
 ((lenR (Prod.fst x2) = lenR (Prod.fst x2)) ∧
 ((x0 = x0) ∧
 ((x1 = x1) ∧
 ((x2 = x2) ∧
       (True)))))) := by
  intro turn d w _
  simp
set_option maxRecDepth 10000 in
theorem aarmed_ok : conAArmed.ok KN Tryd.prog 26 := by
  refine Con.of_vc ([]) ([]) ([]) TT_ok follows Tryd.func26 ?_ G88_ok (@toVC _ _ aarmed_vc ?_)
  · kernel_rfl
  · kernel_rfl
noncomputable def G89 : List (FuncId × Con) := (26, conAArmed) :: G88
theorem G89_ok : GOK KN Tryd.prog G89 := GOK.cons (Callable.of Tryd.func26 (by kernel_rfl) (by kernel_rfl)) aarmed_ok G88_ok

set_option maxRecDepth 10000 in
theorem aarm_vc :
  ∀ x0 : Int,
 ∀ x1 : Int,
 ∀ x2 : Int,
 ∀ x3 : Int,
 ∀ x4 : Int,
 ∀ x5 : List (Bool × (Int × (Int × (Int × Int)))),
 ∀ x6 : (List (Bool × (Int × Int)) × Int),
 ((u64ok x2) ∧
 (((0 : Int) ≤ x4) ∧
 (x4 < (9223372036854775807 : Int)))) →
 (True) ∧
 (True →
 (((!hasG x5 x0) = true) →
 (True) ∧
 ((false = (hasG x5 x0 && Prod.snd (setR (Prod.fst (unsetR x6 x0)) x0 x2 (x4 + (1 : Int))))) ∧
 ((x4 = if hasG x5 x0 = true then x4 + (1 : Int) else x4) ∧
 ((x5 = if hasG x5 x0 = true then putG x5 x0 (true, (1 : Int), x1, x2, x3) else x5) ∧
 ((x6 = if hasG x5 x0 = true then Prod.fst (setR (Prod.fst (unsetR x6 x0)) x0 x2 (x4 + (1 : Int))) else x6) ∧
 (True)))))) ∧
 (((!hasG x5 x0) = false) →
 (True) ∧
 (True →
 (True) ∧
 (True →
 ∀ x7 : Int,
 (x7 = litArith BinOp.add IntKind.u64 x4 (1 : Int)) →
 ((u64ok x2) ∧
 (u64ok x7)) ∧
 (True →
 (True) ∧
 ((Prod.snd (setR (Prod.fst (unsetR x6 x0)) x0 x2 x7) = (hasG x5 x0 && Prod.snd (setR (Prod.fst (unsetR x6 x0)) x0 x2 (x4 + (1 : Int))))) ∧
 ((x7 = if hasG x5 x0 = true then x4 + (1 : Int) else x4) ∧
 (((if hasG x5 x0 = true then putG x5 x0 (true, (1 : Int), x1, x2, x3) else x5) = if hasG x5 x0 = true then putG x5 x0 (true, (1 : Int), x1, x2, x3) else x5) ∧
 ((Prod.fst (setR (Prod.fst (unsetR x6 x0)) x0 x2 x7) = if hasG x5 x0 = true then Prod.fst (setR (Prod.fst (unsetR x6 x0)) x0 x2 (x4 + (1 : Int))) else x6) ∧
           (True)))))))))) := by
  rintro k h_ at_ p turn d w ⟨ha, t0, t1⟩
  refine ⟨trivial, fun _ => ⟨fun h => ?_, fun h => ⟨trivial, fun _ => ⟨trivial, fun _ => ?_⟩⟩⟩⟩
  · have h : hasG d k = false := by simpa using h
    simp [h]
  · have h : hasG d k = true := by simpa using h
    rintro _ rfl
    rw [addU_ (by omega) (by omega)]
    refine ⟨⟨ha, by omega, by omega⟩, fun _ => ?_⟩
    simp [h]
set_option maxRecDepth 10000 in
theorem aarm_ok : conAArm.ok KN Tryd.prog 16 := by
  refine Con.of_vc ([]) ([]) ([]) TT_ok follows Tryd.func16 ?_ G89_ok (@toVC _ _ aarm_vc ?_)
  · kernel_rfl
  · kernel_rfl
noncomputable def G90 : List (FuncId × Con) := (16, conAArm) :: G89
theorem G90_ok : GOK KN Tryd.prog G90 := GOK.cons (Callable.of Tryd.func16 (by kernel_rfl) (by kernel_rfl)) aarm_ok G89_ok

set_option maxRecDepth 10000 in
theorem astop_vc :
  ∀ x0 : Int,
 ∀ x1 : Int,
 ∀ x2 : List (Bool × (Int × (Int × (Int × Int)))),
 ∀ x3 : (List (Bool × (Int × Int)) × Int),
 True →
 (True) ∧
 (True →
 ∀ x4 : (Int × (Int × (Int × Int))),
 (x4 = if hasG x2 x0 = true then Prod.snd (ix x2 x0) else noRw) →
 (((!hasG x2 x0) = true) →
 (True) ∧
 ((false = stopG x2 x0) ∧
 ((x1 = x1) ∧
 ((x2 = if stopG x2 x0 = true then putG x2 x0 (true, noRw) else x2) ∧
 ((x3 = if stopG x2 x0 = true then Prod.fst (unsetR x3 x0) else x3) ∧
 (True)))))) ∧
 (((!hasG x2 x0) = false) →
 ((litCmp BinOp.eql (Prod.fst x4) (0 : Int) = true) →
 (True) ∧
 ((false = stopG x2 x0) ∧
 ((x1 = x1) ∧
 ((x2 = if stopG x2 x0 = true then putG x2 x0 (true, noRw) else x2) ∧
 ((x3 = if stopG x2 x0 = true then Prod.fst (unsetR x3 x0) else x3) ∧
 (True)))))) ∧
 ((litCmp BinOp.eql (Prod.fst x4) (0 : Int) = false) →
 (True) ∧
 (True →
 (True) ∧
 (True →
 (True) ∧
 ((hasG x2 x0 = stopG x2 x0) ∧
 ((x1 = x1) ∧
 (((if hasG x2 x0 = true then putG x2 x0 (true, (0 : Int), (0 : Int), (0 : Int), (0 : Int)) else x2) = if stopG x2 x0 = true then putG x2 x0 (true, noRw) else x2) ∧
 ((Prod.fst (unsetR x3 x0) = if stopG x2 x0 = true then Prod.fst (unsetR x3 x0) else x3) ∧
           (True)))))))))) := by
  intro k turn d w _
  refine ⟨trivial, fun _ => ?_⟩
  rintro _ rfl
  refine ⟨fun h => ?_, fun h => ?_⟩
  · have h : hasG d k = false := by simpa using h
    simp [h, stopG]
  · have h : hasG d k = true := by simpa using h
    rw [if_pos h]
    simp only [gtrT, gtrF, lssT, lssF, leqT, leqF, geqT, geqF, eqlT, eqlF, neqT, neqF, true_and, and_true, true_implies, implies_true, Bool.not_eq_true', Bool.not_eq_false', bne_iff_ne, ne_eq, not_true_eq_false, not_false_eq_true, Int.toNat_natCast, same_self, reduceCtorEq, false_implies, List.nil_append]
    refine ⟨fun he => ?_, fun he => ?_⟩
    · simp [h, stopG, he]
    · simp [h, stopG, he]
set_option maxRecDepth 10000 in
theorem astop_ok : conAStop.ok KN Tryd.prog 18 := by
  refine Con.of_vc ([]) ([]) ([]) TT_ok follows Tryd.func18 ?_ G90_ok (@toVC _ _ astop_vc ?_)
  · kernel_rfl
  · kernel_rfl
noncomputable def G91 : List (FuncId × Con) := (18, conAStop) :: G90
theorem G91_ok : GOK KN Tryd.prog G91 := GOK.cons (Callable.of Tryd.func18 (by kernel_rfl) (by kernel_rfl)) astop_ok G90_ok

set_option maxRecDepth 10000 in
theorem ato_vc :
  ∀ x0 : Int,
 ∀ x1 : Int,
 ∀ x2 : List (Bool × (Int × (Int × (Int × Int)))),
 ∀ x3 : (List (Bool × (Int × Int)) × Int),
 ((u64ok x0) ∧
 (List.length (Prod.fst x3) ≤ (4096 : Nat))) →
 (u64ok x0) ∧
 (True →
 ∃ x4 : Int → List (Bool × (Int × (Int × (Int × Int)))) → Prop,
 ∃ x5 : Int → List (Bool × (Int × (Int × (Int × Int)))) → Nat,
 (x4 (0 : Int) x2) ∧
 (∀ x6 : Int,
 ∀ x7 : List (Bool × (Int × (Int × (Int × Int)))),
 (x4 x6 x7) →
 ((litCmp BinOp.lss x6 (↑(List.length (outR x3 x0)) : Int) = true) →
 (((0 : Int) ≤ x6) ∧
 (x6 < (↑(List.length (outR x3 x0)) : Int))) ∧
 (∀ x8 : Int,
 (x8 = ix (outR x3 x0) x6) →
 (True) ∧
 (True →
 ∀ x9 : (Int × (Int × (Int × Int))),
 (x9 = if hasG x7 x8 = true then Prod.snd (ix x7 x8) else noRw) →
 ∀ x10 : (Int × (Int × (Int × Int))),
 (x10 = ((2 : Int), Prod.snd x9)) →
 (True) ∧
 (True →
 ∀ x11 : Int,
 (x11 = litArith BinOp.add IntKind.i64 x6 (1 : Int)) →
 ((↑(List.length (outR x3 x0)) : Int) = (↑(List.length (outR x3 x0)) : Int)) ∧
 ((x1 = x1) ∧
 ((outR x3 x0 = outR x3 x0) ∧
 (((↑(List.length (outR x3 x0)) : Int) = (↑(List.length (outR x3 x0)) : Int)) ∧
 ((toR x3 x0 = toR x3 x0) ∧
 ((x4 x11 (if hasG x7 x8 = true then putG x7 x8 (true, x10) else x7)) ∧
 (x5 x11 (if hasG x7 x8 = true then putG x7 x8 (true, x10) else x7) < x5 x6 x7)))))))))) ∧
 ((litCmp BinOp.lss x6 (↑(List.length (outR x3 x0)) : Int) = false) →
 (True) ∧
 ((x1 = x1) ∧
 ((outR x3 x0 = outR x3 x0) ∧
 (((↑(List.length (outR x3 x0)) : Int) = (↑(List.length (outR x3 x0)) : Int)) ∧
 ((x7 = toG x2 (outR x3 x0)) ∧
 ((toR x3 x0 = toR x3 x0) ∧
          (True))))))))) := by
  rintro to turn d w ⟨ht, hw⟩
  refine ⟨ht, fun _ => ?_⟩
  have hol : (outR w to).length ≤ 4096 := by
    unfold outR
    rw [srt_length]
    exact Nat.le_trans (dueN_length _ _ _) hw
  have hlen : ∃ o, o = outR w to := ⟨_, rfl⟩
  obtain ⟨o, ho⟩ := hlen
  rw [← ho] at hol ⊢
  simp only [gtrT, gtrF, lssT, lssF, leqT, leqF, geqT, geqF, eqlT, eqlF, neqT, neqF, true_and, and_true, true_implies, implies_true, Bool.not_eq_true', Bool.not_eq_false', bne_iff_ne, ne_eq, not_true_eq_false, not_false_eq_true, Int.toNat_natCast, same_self, reduceCtorEq, false_implies, List.nil_append]
  refine ⟨fun j x => 0 ≤ j ∧ j ≤ o.length ∧ x = toG d (o.take j.toNat), fun j _ => ((o.length : Int) - j).toNat, ⟨by omega, by omega, by simp [toG]⟩, ?_⟩
  rintro j x ⟨j0, j1, rfl⟩
  refine ⟨fun hj => ⟨⟨j0, hj⟩, ?_⟩, fun hj => ?_⟩
  · rintro _ rfl _ rfl _ rfl _ rfl
    rw [addI_ (by omega) (by omega)]
    refine ⟨⟨by omega, by omega, ?_⟩, meas hj⟩
    rw [take_ixA j0 hj]
    unfold toG
    rw [List.foldl_append]
    simp only [List.foldl_cons, List.foldl_nil]
    unfold dueG
    split
    · rfl
    · rfl
  · have : j = o.length := by omega
    subst this
    rw [Int.toNat_natCast, List.take_length]
set_option maxRecDepth 10000 in
theorem ato_ok : conATo.ok KN Tryd.prog 21 := by
  refine Con.of_vc ([(0, ⟨[], [(18, .d (.i .i64))], [], [], [0]⟩)]) ([]) ([]) TT_ok follows Tryd.func21 ?_ G91_ok (@toVC _ _ ato_vc ?_)
  · kernel_rfl
  · kernel_rfl
noncomputable def G92 : List (FuncId × Con) := (21, conATo) :: G91
theorem G92_ok : GOK KN Tryd.prog G92 := GOK.cons (Callable.of Tryd.func21 (by kernel_rfl) (by kernel_rfl)) ato_ok G91_ok

set_option maxRecDepth 10000 in
theorem asent_vc :
  ∀ x0 : Int,
 ∀ x1 : Int,
 ∀ x2 : Int,
 ∀ x3 : List (Bool × (Int × (Int × (Int × Int)))),
 ∀ x4 : (List (Bool × (Int × Int)) × Int),
 (((0 : Int) ≤ x2) ∧
 ((x2 < (9223372036854775807 : Int)) ∧
 ((u64ok x1) ∧
 ((hasG x3 x0 = true) →
 RwU (Prod.snd (ix x3 x0)))))) →
 (True) ∧
 (True →
 ∀ x5 : (Int × (Int × (Int × Int))),
 (x5 = if hasG x3 x0 = true then Prod.snd (ix x3 x0) else noRw) →
 (((!hasG x3 x0) = true) →
 (True) ∧
 (((0 : Int) = if sentG x3 x0 = true then if Prod.snd (Prod.snd (nextC (Prod.fst (Prod.snd (Prod.snd (Prod.snd (ix x3 x0))))) (Prod.snd (Prod.snd (Prod.snd (Prod.snd (ix x3 x0))))) x1)) = true then Prod.fst (Prod.snd (nextC (Prod.fst (Prod.snd (Prod.snd (Prod.snd (ix x3 x0))))) (Prod.snd (Prod.snd (Prod.snd (Prod.snd (ix x3 x0))))) x1)) else (1 : Int) else (0 : Int)) ∧
 ((x2 = if sentG x3 x0 = true then if Prod.snd (Prod.snd (nextC (Prod.fst (Prod.snd (Prod.snd (Prod.snd (ix x3 x0))))) (Prod.snd (Prod.snd (Prod.snd (Prod.snd (ix x3 x0))))) x1)) = true then x2 + (1 : Int) else x2 else x2) ∧
 ((x3 = if sentG x3 x0 = true then if Prod.snd (Prod.snd (nextC (Prod.fst (Prod.snd (Prod.snd (Prod.snd (ix x3 x0))))) (Prod.snd (Prod.snd (Prod.snd (Prod.snd (ix x3 x0))))) x1)) = true then putG x3 x0 (true, (1 : Int), Prod.fst (Prod.snd (Prod.snd (ix x3 x0))), Prod.fst (nextC (Prod.fst (Prod.snd (Prod.snd (Prod.snd (ix x3 x0))))) (Prod.snd (Prod.snd (Prod.snd (Prod.snd (ix x3 x0))))) x1), Prod.snd (Prod.snd (Prod.snd (Prod.snd (ix x3 x0))))) else putG x3 x0 (true, noRw) else x3) ∧
 ((x4 = if sentG x3 x0 = true then if Prod.snd (Prod.snd (nextC (Prod.fst (Prod.snd (Prod.snd (Prod.snd (ix x3 x0))))) (Prod.snd (Prod.snd (Prod.snd (Prod.snd (ix x3 x0))))) x1)) = true then Prod.fst (setR (Prod.fst (unsetR x4 x0)) x0 (Prod.fst (nextC (Prod.fst (Prod.snd (Prod.snd (Prod.snd (ix x3 x0))))) (Prod.snd (Prod.snd (Prod.snd (Prod.snd (ix x3 x0))))) x1)) (x2 + (1 : Int))) else x4 else x4) ∧
 (True)))))) ∧
 (((!hasG x3 x0) = false) →
 ((litCmp BinOp.neq (Prod.fst x5) (2 : Int) = true) →
 (True) ∧
 (((0 : Int) = if sentG x3 x0 = true then if Prod.snd (Prod.snd (nextC (Prod.fst (Prod.snd (Prod.snd (Prod.snd (ix x3 x0))))) (Prod.snd (Prod.snd (Prod.snd (Prod.snd (ix x3 x0))))) x1)) = true then Prod.fst (Prod.snd (nextC (Prod.fst (Prod.snd (Prod.snd (Prod.snd (ix x3 x0))))) (Prod.snd (Prod.snd (Prod.snd (Prod.snd (ix x3 x0))))) x1)) else (1 : Int) else (0 : Int)) ∧
 ((x2 = if sentG x3 x0 = true then if Prod.snd (Prod.snd (nextC (Prod.fst (Prod.snd (Prod.snd (Prod.snd (ix x3 x0))))) (Prod.snd (Prod.snd (Prod.snd (Prod.snd (ix x3 x0))))) x1)) = true then x2 + (1 : Int) else x2 else x2) ∧
 ((x3 = if sentG x3 x0 = true then if Prod.snd (Prod.snd (nextC (Prod.fst (Prod.snd (Prod.snd (Prod.snd (ix x3 x0))))) (Prod.snd (Prod.snd (Prod.snd (Prod.snd (ix x3 x0))))) x1)) = true then putG x3 x0 (true, (1 : Int), Prod.fst (Prod.snd (Prod.snd (ix x3 x0))), Prod.fst (nextC (Prod.fst (Prod.snd (Prod.snd (Prod.snd (ix x3 x0))))) (Prod.snd (Prod.snd (Prod.snd (Prod.snd (ix x3 x0))))) x1), Prod.snd (Prod.snd (Prod.snd (Prod.snd (ix x3 x0))))) else putG x3 x0 (true, noRw) else x3) ∧
 ((x4 = if sentG x3 x0 = true then if Prod.snd (Prod.snd (nextC (Prod.fst (Prod.snd (Prod.snd (Prod.snd (ix x3 x0))))) (Prod.snd (Prod.snd (Prod.snd (Prod.snd (ix x3 x0))))) x1)) = true then Prod.fst (setR (Prod.fst (unsetR x4 x0)) x0 (Prod.fst (nextC (Prod.fst (Prod.snd (Prod.snd (Prod.snd (ix x3 x0))))) (Prod.snd (Prod.snd (Prod.snd (Prod.snd (ix x3 x0))))) x1)) (x2 + (1 : Int))) else x4 else x4) ∧
 (True)))))) ∧
 ((litCmp BinOp.neq (Prod.fst x5) (2 : Int) = false) →
 ((u64ok (Prod.fst (Prod.snd (Prod.snd x5)))) ∧
 ((u64ok (Prod.snd (Prod.snd (Prod.snd x5)))) ∧
 (u64ok x1))) ∧
 (True →
 (((!Prod.snd (Prod.snd (nextC (Prod.fst (Prod.snd (Prod.snd x5))) (Prod.snd (Prod.snd (Prod.snd x5))) x1))) = true) →
 (True) ∧
 (True →
 (True) ∧
 (((1 : Int) = if sentG x3 x0 = true then if Prod.snd (Prod.snd (nextC (Prod.fst (Prod.snd (Prod.snd (Prod.snd (ix x3 x0))))) (Prod.snd (Prod.snd (Prod.snd (Prod.snd (ix x3 x0))))) x1)) = true then Prod.fst (Prod.snd (nextC (Prod.fst (Prod.snd (Prod.snd (Prod.snd (ix x3 x0))))) (Prod.snd (Prod.snd (Prod.snd (Prod.snd (ix x3 x0))))) x1)) else (1 : Int) else (0 : Int)) ∧
 ((x2 = if sentG x3 x0 = true then if Prod.snd (Prod.snd (nextC (Prod.fst (Prod.snd (Prod.snd (Prod.snd (ix x3 x0))))) (Prod.snd (Prod.snd (Prod.snd (Prod.snd (ix x3 x0))))) x1)) = true then x2 + (1 : Int) else x2 else x2) ∧
 (((if hasG x3 x0 = true then putG x3 x0 (true, (0 : Int), (0 : Int), (0 : Int), (0 : Int)) else x3) = if sentG x3 x0 = true then if Prod.snd (Prod.snd (nextC (Prod.fst (Prod.snd (Prod.snd (Prod.snd (ix x3 x0))))) (Prod.snd (Prod.snd (Prod.snd (Prod.snd (ix x3 x0))))) x1)) = true then putG x3 x0 (true, (1 : Int), Prod.fst (Prod.snd (Prod.snd (ix x3 x0))), Prod.fst (nextC (Prod.fst (Prod.snd (Prod.snd (Prod.snd (ix x3 x0))))) (Prod.snd (Prod.snd (Prod.snd (Prod.snd (ix x3 x0))))) x1), Prod.snd (Prod.snd (Prod.snd (Prod.snd (ix x3 x0))))) else putG x3 x0 (true, noRw) else x3) ∧
 ((x4 = if sentG x3 x0 = true then if Prod.snd (Prod.snd (nextC (Prod.fst (Prod.snd (Prod.snd (Prod.snd (ix x3 x0))))) (Prod.snd (Prod.snd (Prod.snd (Prod.snd (ix x3 x0))))) x1)) = true then Prod.fst (setR (Prod.fst (unsetR x4 x0)) x0 (Prod.fst (nextC (Prod.fst (Prod.snd (Prod.snd (Prod.snd (ix x3 x0))))) (Prod.snd (Prod.snd (Prod.snd (Prod.snd (ix x3 x0))))) x1)) (x2 + (1 : Int))) else x4 else x4) ∧
 (True))))))) ∧
 (((!Prod.snd (Prod.snd (nextC (Prod.fst (Prod.snd (Prod.snd x5))) (Prod.snd (Prod.snd (Prod.snd x5))) x1))) = false) →
 ((u64ok (Prod.fst (nextC (Prod.fst (Prod.snd (Prod.snd x5))) (Prod.snd (Prod.snd (Prod.snd x5))) x1))) ∧
 (((0 : Int) ≤ x2) ∧
 (x2 < (9223372036854775807 : Int)))) ∧
 (True →
 (True) ∧
 ((Prod.fst (Prod.snd (nextC (Prod.fst (Prod.snd (Prod.snd x5))) (Prod.snd (Prod.snd (Prod.snd x5))) x1)) = if sentG x3 x0 = true then if Prod.snd (Prod.snd (nextC (Prod.fst (Prod.snd (Prod.snd (Prod.snd (ix x3 x0))))) (Prod.snd (Prod.snd (Prod.snd (Prod.snd (ix x3 x0))))) x1)) = true then Prod.fst (Prod.snd (nextC (Prod.fst (Prod.snd (Prod.snd (Prod.snd (ix x3 x0))))) (Prod.snd (Prod.snd (Prod.snd (Prod.snd (ix x3 x0))))) x1)) else (1 : Int) else (0 : Int)) ∧
 (((if hasG x3 x0 = true then x2 + (1 : Int) else x2) = if sentG x3 x0 = true then if Prod.snd (Prod.snd (nextC (Prod.fst (Prod.snd (Prod.snd (Prod.snd (ix x3 x0))))) (Prod.snd (Prod.snd (Prod.snd (Prod.snd (ix x3 x0))))) x1)) = true then x2 + (1 : Int) else x2 else x2) ∧
 (((if hasG x3 x0 = true then putG x3 x0 (true, (1 : Int), Prod.fst (Prod.snd x5), Prod.fst (nextC (Prod.fst (Prod.snd (Prod.snd x5))) (Prod.snd (Prod.snd (Prod.snd x5))) x1), Prod.snd (Prod.snd (Prod.snd x5))) else x3) = if sentG x3 x0 = true then if Prod.snd (Prod.snd (nextC (Prod.fst (Prod.snd (Prod.snd (Prod.snd (ix x3 x0))))) (Prod.snd (Prod.snd (Prod.snd (Prod.snd (ix x3 x0))))) x1)) = true then putG x3 x0 (true, (1 : Int), Prod.fst (Prod.snd (Prod.snd (ix x3 x0))), Prod.fst (nextC (Prod.fst (Prod.snd (Prod.snd (Prod.snd (ix x3 x0))))) (Prod.snd (Prod.snd (Prod.snd (Prod.snd (ix x3 x0))))) x1), Prod.snd (Prod.snd (Prod.snd (Prod.snd (ix x3 x0))))) else putG x3 x0 (true, noRw) else x3) ∧
 (((if hasG x3 x0 = true then Prod.fst (setR (Prod.fst (unsetR x4 x0)) x0 (Prod.fst (nextC (Prod.fst (Prod.snd (Prod.snd x5))) (Prod.snd (Prod.snd (Prod.snd x5))) x1)) (x2 + (1 : Int))) else x4) = if sentG x3 x0 = true then if Prod.snd (Prod.snd (nextC (Prod.fst (Prod.snd (Prod.snd (Prod.snd (ix x3 x0))))) (Prod.snd (Prod.snd (Prod.snd (Prod.snd (ix x3 x0))))) x1)) = true then Prod.fst (setR (Prod.fst (unsetR x4 x0)) x0 (Prod.fst (nextC (Prod.fst (Prod.snd (Prod.snd (Prod.snd (ix x3 x0))))) (Prod.snd (Prod.snd (Prod.snd (Prod.snd (ix x3 x0))))) x1)) (x2 + (1 : Int))) else x4 else x4) ∧
            (True))))))))))) := by
  rintro k stamp turn d w ⟨t0, t1, hs, hu⟩
  refine ⟨trivial, fun _ => ?_⟩
  rintro _ rfl
  refine ⟨fun h => ?_, fun h => ?_⟩
  · have h : hasG d k = false := by simpa using h
    have e : sentG d k = false := by unfold sentG; rw [h]; rfl
    simp [e]
  · have h : hasG d k = true := by simpa using h
    have hu := hu h
    rw [if_pos h]
    simp only [gtrT, gtrF, lssT, lssF, leqT, leqF, geqT, geqF, eqlT, eqlF, neqT, neqF, true_and, and_true, true_implies, implies_true, Bool.not_eq_true', Bool.not_eq_false', bne_iff_ne, ne_eq, not_true_eq_false, not_false_eq_true, Int.toNat_natCast, same_self, reduceCtorEq, false_implies, List.nil_append]
    refine ⟨fun he => ?_, fun he => ⟨⟨hu.a, hu.p, hs⟩, fun hn => ?_, fun hn => ?_⟩⟩
    · have e : sentG d k = false := by unfold sentG; rw [h, decide_eq_false he]; rfl
      simp [e]
    · have e : sentG d k = true := by unfold sentG; rw [h, decide_eq_true he]; rfl
      simp [e, hn, h]
    · have e : sentG d k = true := by unfold sentG; rw [h, decide_eq_true he]; rfl
      refine ⟨⟨next_u64 hu.a hu.p hs, t0, t1⟩, ?_⟩
      simp [e, hn, h]
set_option maxRecDepth 10000 in
theorem asent_ok : conASent.ok KN Tryd.prog 23 := by
  refine Con.of_vc ([]) ([]) ([]) TT_ok follows Tryd.func23 ?_ G92_ok (@toVC _ _ asent_vc ?_)
  · kernel_rfl
  · kernel_rfl
noncomputable def G93 : List (FuncId × Con) := (23, conASent) :: G92
theorem G93_ok : GOK KN Tryd.prog G93 := GOK.cons (Callable.of Tryd.func23 (by kernel_rfl) (by kernel_rfl)) asent_ok G92_ok
end Go.Proofs.YtplefbcgpbdkfaaDoor
/- Package alarm: the contracts, over whole books. -/
namespace Go.Proofs.YtplefbcgpbdkfaaDoor
open Go Go.Fx
-- ENV: KN
abbrev Pt := Int × Int
abbrev Ar := List (Pt × Bo)
abbrev tpAr : Tp := .sl (.p .pt tpBo)
abbrev opA : OK × Tp := (.aren 3, tpAr)
abbrev obA (l : Ar) : Ob := ⟨true, .aren 3, tpAr, l⟩
def bkA (e : Pt) (l : Ar) : Bo := getA (tpBo.z) e l
def upA (e : Pt) (b : Bo) (l : Ar) : Ar := (e, b) :: delA e l
abbrev ArG := List (Pt × Rg)
abbrev tpArG : Tp := .sl (.p .pt tpRg)
abbrev opAG : OK × Tp := (.aren 1, tpArG)
abbrev obAG (l : ArG) : Ob := ⟨true, .aren 1, tpArG, l⟩
def rgA (e : Pt) (l : ArG) : Rg := getA (tpRg.z) e l
def okTurn (b : Bo) : Prop := 0 ≤ b.2.1 ∧ b.2.1 < 9223372036854775806
/-- Behind a call on a book: it, and no other one, has turned. -/
structure UpA (e : Pt) (b : Bo) (l l' : Ar) : Prop where
  has : hasA e l' = true
  is : bkA e l' = b
  others : ∀ x, x ≠ e → hasA x l' = hasA x l ∧ bkA x l' = bkA x l
def conB2Make : Con := mkConO [.d .pt] [] [] [opA] (fun (e : Pt) (l : Ar) => hasA e l = true) [.i .i64, .bo, tpAr] (fun (e : Pt) (l : Ar) (k : Int) (ok : Bool) (l' : Ar) => NextP (fun i => !(ix (bkA e l).1 i).1) 0 (bkA e l).1.length k ok ∧ UpA e (makeB (bkA e l) k ok) l l') (fun (e : Pt) (l : Ar) (k : Int) (ok : Bool) (l' : Ar) => .tup [i64 k, bb ok])
  (constX [] _) (constX [] _) (fun (e : Pt) (l : Ar) (k : Int) (ok : Bool) (l' : Ar) => [obA l'])
def conB2Free : Con := mkConO [.d .pt, .d (.i .i64)] [] [] [opA] (fun (e : Pt) (k : Int) (l : Ar) => hasA e l = true) [tpAr] (fun (e : Pt) (k : Int) (l l' : Ar) => UpA e (freeB (bkA e l) k) l l') (fun (e : Pt) (k : Int) (l l' : Ar) => bb (isB (bkA e l) k))
  (constX [] _) (constX [] _) (fun (e : Pt) (k : Int) (l l' : Ar) => [obA l'])
def lookB (b : Bo) (k : Int) : Rw := if isB b k then ((ix b.1 k).2.1, (ix b.1 k).2.2.1, (ix b.1 k).2.2.2.1, (ix b.1 k).2.2.2.2.1) else noRw
def conB2Look : Con := mkConO [.d .pt, .d (.i .i64)] [] [] [opA] (fun (e : Pt) (k : Int) (l : Ar) => hasA e l = true) [tpAr] (fun (e : Pt) (k : Int) (l l' : Ar) => UpA e (bkA e l) l l') (fun (e : Pt) (k : Int) (l l' : Ar) => .tup [.x tpRw (lookB (bkA e l) k), bb (isB (bkA e l) k)])
  (constX [] _) (constX [] _) (fun (e : Pt) (k : Int) (l l' : Ar) => [obA l'])
def conB2Count : Con := mkConO [.d .pt] [] [] [opA] (fun (e : Pt) (l : Ar) => hasA e l = true) [tpAr] (fun (e : Pt) (l l' : Ar) => UpA e (bkA e l) l l') (fun (e : Pt) (l l' : Ar) => i64 (cntB (bkA e l).1).1) (constX [] _) (constX [] _) (fun (e : Pt) (l l' : Ar) => [obA l'])
def conB2Armed : Con := mkConO [.d .pt] [] [] [opA] (fun (e : Pt) (l : Ar) => hasA e l = true) [tpAr] (fun (e : Pt) (l l' : Ar) => UpA e (bkA e l) l l') (fun (e : Pt) (l l' : Ar) => i64 (cntB (bkA e l).1).2) (constX [] _) (constX [] _) (fun (e : Pt) (l l' : Ar) => [obA l'])
def conB2Arm : Con := mkConO [.d .pt, .d (.i .i64), .d (.i .u64), .d (.i .u64), .d (.i .u64)] [] [] [opA] (fun (e : Pt) (k h at_ p : Int) (l : Ar) => hasA e l = true ∧ u64ok h ∧ u64ok at_ ∧ u64ok p ∧ okTurn (bkA e l)) [tpAr] (fun (e : Pt) (k h at_ p : Int) (l l' : Ar) => UpA e (armB (bkA e l) k h at_ p) l l') (fun (e : Pt) (k h at_ p : Int) (l l' : Ar) => bb (isB (bkA e l) k))
  (constX [] _) (constX [] _) (fun (e : Pt) (k h at_ p : Int) (l l' : Ar) => [obA l'])
def conB2Stop : Con := mkConO [.d .pt, .d (.i .i64)] [] [] [opA] (fun (e : Pt) (k : Int) (l : Ar) => hasA e l = true) [tpAr] (fun (e : Pt) (k : Int) (l l' : Ar) => UpA e (stopB (bkA e l) k) l l') (fun (e : Pt) (k : Int) (l l' : Ar) => bb (stopI (bkA e l) k))
  (constX [] _) (constX [] _) (fun (e : Pt) (k : Int) (l l' : Ar) => [obA l'])
def conB2To : Con := mkConO [.d .pt, .d (.i .u64)] [] [] [opA] (fun (e : Pt) (to : Int) (l : Ar) => hasA e l = true ∧ u64ok to) [.sl (.i .i64), tpAr] (fun (e : Pt) (to : Int) (l : Ar) (o : List Int) (l' : Ar) => o = outR (whB (bkA e l)) to ∧ UpA e (toB (bkA e l) to) l l') (constX (.own 0) _)
  (constX [] _) (fun (e : Pt) (to : Int) (l : Ar) (o : List Int) (l' : Ar) => [mkRow 3 (.i .i64) o]) (fun (e : Pt) (to : Int) (l : Ar) (o : List Int) (l' : Ar) => [obA l'])
def conB2Sent : Con := mkConO [.d .pt, .d (.i .i64), .d (.i .u64)] [] [] [opA] (fun (e : Pt) (k stamp : Int) (l : Ar) => hasA e l = true ∧ u64ok stamp ∧ okTurn (bkA e l)) [.i .u64, tpAr] (fun (e : Pt) (k stamp : Int) (l : Ar) (n : Int) (l' : Ar) => n = (sentB (bkA e l) k stamp).2 ∧ UpA e (sentB (bkA e l) k stamp).1 l l') (fun (e : Pt) (k stamp : Int) (l : Ar) (n : Int) (l' : Ar) => u64 n)
  (constX [] _) (constX [] _) (fun (e : Pt) (k stamp : Int) (l : Ar) (n : Int) (l' : Ar) => [obA l'])
/-- A region that nothing is in. -/
def freeG (d : Rg) : Prop := d.length ≤ 4096 ∧ ∀ k : Int, 0 ≤ k → k < d.length → (ix d k).1 = false
def conB2New : Con := mkConO [.d .pt, .d (.i .u64)] [] [] [opAG, opA] (fun (e : Pt) (now : Int) (g : ArG) (l : Ar) => hasA e g = true ∧ u64ok now ∧ freeG (rgA e g)) [.pt, tpArG, tpAr] (fun (e : Pt) (now : Int) (g : ArG) (l : Ar) (q : Pt) (g' : ArG) (l' : Ar) => (0 ≤ q.1 ∧ 0 ≤ q.2) ∧ freshA l q ∧ UpA q (List.replicate (rgA e g).length noTm, 0, now) l l') (fun (e : Pt) (now : Int) (g : ArG) (l : Ar) (q : Pt) (g' : ArG) (l' : Ar) => .pt q)
  (constX [] _) (constX [] _) (fun (e : Pt) (now : Int) (g : ArG) (l : Ar) (q : Pt) (g' : ArG) (l' : Ar) => [obAG g', obA l'])
section
variable {e x : Pt} {b : Bo} {l : Ar}
theorem hasA_up : hasA e (upA e b l) = true := by unfold upA hasA; rw [if_pos rfl]
theorem bkA_up : bkA e (upA e b l) = b := by unfold bkA upA getA; rw [if_pos rfl]
theorem hasA_new : hasA e ((e, b) :: l) = true := by unfold hasA; rw [if_pos rfl]
theorem bkA_new : bkA e ((e, b) :: l) = b := by unfold bkA getA; rw [if_pos rfl]
theorem getA_del {α : Type} {z : α} {e x : Pt} (h : x ≠ e) : ∀ {l : List (Pt × α)}, getA z x (delA e l) = getA z x l
  | [] => rfl
  | y :: l => by
    unfold delA
    by_cases c : y.1 = e
    · rw [if_pos c]
      show getA z x l = if y.1 = x then y.2 else getA z x l
      rw [if_neg (fun q => h (q.symm.trans c))]
    · rw [if_neg c]
      show (if y.1 = x then y.2 else getA z x (delA e l)) = if y.1 = x then y.2 else getA z x l
      rw [getA_del h]
theorem hasA_del {α : Type} {e x : Pt} (h : x ≠ e) : ∀ {l : List (Pt × α)}, hasA x (delA e l) = hasA x l
  | [] => rfl
  | y :: l => by
    unfold delA
    by_cases c : y.1 = e
    · rw [if_pos c]
      show hasA x l = if y.1 = x then true else hasA x l
      rw [if_neg (fun q => h (q.symm.trans c))]
    · rw [if_neg c]
      show (if y.1 = x then true else hasA x (delA e l)) = if y.1 = x then true else hasA x l
      rw [hasA_del h]
theorem hasA_up_ne (h : x ≠ e) : hasA x (upA e b l) = hasA x l := by
  unfold upA hasA
  rw [if_neg (Ne.symm h), hasA_del h]
  cases l <;> rfl
theorem bkA_up_ne (h : x ≠ e) : bkA x (upA e b l) = bkA x l := by
  unfold bkA upA
  show (if e = x then b else getA _ x (delA e l)) = _
  rw [if_neg (Ne.symm h), getA_del h]
theorem fresh_ne {α : Type} {l : List (Pt × α)} {e x : Pt} (h : freshA l e) (hx : hasA x l = true) : x ≠ e := by
  rintro rfl
  induction l with
  | nil => cases hx
  | cons y l ih =>
    unfold hasA at hx
    split at hx
    · rename_i c
      exact h y List.mem_cons_self c
    · exact ih hx (fun z hz => h z (List.mem_cons_of_mem _ hz))
theorem UpA.trans {b' : Bo} {l1 l2 : Ar} (h : UpA e b l l1) (h' : UpA e b' l1 l2) : UpA e b' l l2 := ⟨h'.has, h'.is, fun x hx => ⟨(h'.others x hx).1.trans (h.others x hx).1, (h'.others x hx).2.trans (h.others x hx).2⟩⟩
theorem UpA.up : UpA e b l (upA e b l) := ⟨hasA_up, bkA_up, fun _ h => ⟨hasA_up_ne h, bkA_up_ne h⟩⟩
theorem UpA.new : UpA e b l ((e, b) :: l) := ⟨hasA_new, bkA_new, fun x h => ⟨by show (if e = x then true else hasA x l) = _; rw [if_neg (Ne.symm h)], by show (if e = x then b else getA _ x l) = _; rw [if_neg (Ne.symm h)]; rfl⟩⟩
end
end Go.Proofs.YtplefbcgpbdkfaaDoor
/- Package alarm: the plain law. -/
namespace Go.Proofs.YtplefbcgpbdkfaaDoor
open Go Go.Fx
section
variable {b : Bo} {turn turn' k : Int} {d : Rg} {w w' : Wh} {t : Tm} {p : Bool × Rw} {a : Mk}
theorem TmR.mono (h : TmR turn t p a) (hl : turn ≤ turn') : TmR turn' t p a := ⟨h.is, h.row, h.non, h.on, h.state, ⟨h.turn.1, by have := h.turn.2; omega⟩, h.u64⟩
theorem TmR.mk_ (h : TmR turn t p a) : a = mkT t := h.on
theorem list_extZ {α : Type} [Inhabited α] {l l' : List α} (hl : l.length = l'.length) (h : ∀ i : Int, 0 ≤ i → i < l.length → ix l i = ix l' i) : l = l' := by
  apply List.ext_getElem hl
  intro i h1 h2
  obtain ⟨_, e1⟩ := ix_lt (l := l) (k := (i : Int)) (by omega) (by omega)
  obtain ⟨_, e2⟩ := ix_lt (l := l') (k := (i : Int)) (by omega) (by omega)
  have := h i (by omega) (by omega)
  rw [e1, e2] at this
  simpa using this
theorem BookR.has (h : BookR b turn d w) (k : Int) : hasG d k = isB b k := by
  unfold hasG isB
  rw [h.len]
  by_cases c : 0 ≤ k ∧ k < b.1.length
  · rw [(h.all k c.1 c.2).is]
  · by_cases c0 : 0 ≤ k
    · have c1 : ¬ k < b.1.length := fun e => c ⟨c0, e⟩
      simp [c1]
    · simp [c0]
theorem BookR.wh (h : BookR b turn d w) : w = whB b := by
  refine Prod.ext (list_extZ (by rw [h.lenw]; simp [whB]) fun i i0 i1 => ?_) h.now
  rw [h.lenw] at i1
  rw [(h.all i i0 i1).mk_]
  exact (ix_map i0 i1).symm
theorem BookR.cnt (h : BookR b turn d w) : cntG d = (cntB b.1).1 := by
  have e : d.map (·.1) = b.1.map (·.1) := list_extZ (by simp [h.len]) fun i i0 i1 => by
    simp only [List.length_map] at i1
    rw [ix_map i0 i1, ix_map i0 (by rw [← h.len]; exact i1), (h.all i i0 (by rw [← h.len]; exact i1)).is]
  have e1 : (d.filter (·.1)).length = ((d.map (·.1)).filter id).length := by rw [List.filter_map, List.length_map]; rfl
  have e2 : (b.1.filter (·.1)).length = ((b.1.map (·.1)).filter id).length := by rw [List.filter_map, List.length_map]; rfl
  unfold cntG cntB
  simp only
  rw [e1, e2, e]
theorem BookR.armed (h : BookR b turn d w) : lenR w.1 = (cntB b.1).2 := by
  rw [h.wh]
  unfold lenR whB cntB
  simp only
  rw [List.filter_map, List.length_map]
  congr 3
  funext t
  simp only [Function.comp_apply, mkT]
  by_cases c : t.2.1 = 1 <;> simp [c]
/-- One timer is another one. -/
theorem BookR.upd (h : BookR b turn d w) (k0 : 0 ≤ k) (k1 : k < b.1.length) (ht : turn ≤ turn') (ht2 : turn' < 9223372036854775807) (hw : w'.2 = w.2) (hl : w'.1.length = w.1.length) (hne : ∀ j : Int, 0 ≤ j → j < b.1.length → j ≠ k → ix w'.1 j = ix w.1 j) (hk : TmR turn' t p (ix w'.1 k)) :
    BookR (b.1.set k.toNat t, turn', b.2.2) turn' (putG d k p) w' := by
  have e0 := h.turn; have e1 := h.turn0
  refine ⟨rfl, ⟨by simp only; omega, ht2⟩, by rw [hw, h.now], h.nowu, by simp [putG, h.len], by simp only [List.length_set]; rw [hl, h.lenw], by simp only [List.length_set]; exact h.le, fun j j0 j1 => ?_⟩
  simp only [List.length_set] at j1
  unfold putG
  rw [ix_set k0 k1 j0, ix_set k0 (by rw [h.len]; exact k1) j0]
  by_cases e : k = j
  · subst e; rw [if_pos rfl, if_pos rfl]; exact hk
  · rw [if_neg e, if_neg e, hne j j0 j1 (Ne.symm e)]
    exact (h.all j j0 j1).mono (by rw [← h.turn]; exact ht)
theorem BookR.unset (h : BookR b turn d w) (k0 : 0 ≤ k) (k1 : k < b.1.length) : (unsetR w k).1.2 = w.2 ∧ (unsetR w k).1.1.length = w.1.length ∧ (∀ j : Int, 0 ≤ j → j < b.1.length → j ≠ k → ix (unsetR w k).1.1 j = ix w.1 j) ∧ ix (unsetR w k).1.1 k = (false, 0, 0) := by
  have hk := h.all k k0 k1
  unfold unsetR
  split
  · refine ⟨rfl, by simp [withR], fun j j0 j1 hj => ?_, ?_⟩
    · simp only [withR]; rw [ix_set k0 (by rw [h.lenw]; exact k1) j0, if_neg (Ne.symm hj)]
    · simp only [withR]; rw [ix_set k0 (by rw [h.lenw]; exact k1) k0, if_pos rfl]
  · rename_i c
    refine ⟨rfl, rfl, fun _ _ _ _ => rfl, ?_⟩
    have e := hk.on
    have c2 : (ix w.1 k).1 = false := by
      cases hc : (ix w.1 k).1 with
      | false => rfl
      | true => exact absurd (by unfold isR; rw [h.lenw]; simp [k0, k1, hc]) c
    by_cases hs : (ix b.1 k).2.1 = 1
    · rw [if_pos hs] at e; rw [e] at c2; cases c2
    · rw [if_neg hs] at e; exact e
theorem BookR.reset (h : BookR b turn d w) (k0 : 0 ≤ k) (k1 : k < b.1.length) (at_ tn : Int) : (setR (unsetR w k).1 k at_ tn).2 = true ∧ (setR (unsetR w k).1 k at_ tn).1.2 = w.2 ∧ (setR (unsetR w k).1 k at_ tn).1.1.length = w.1.length ∧ (∀ j : Int, 0 ≤ j → j < b.1.length → j ≠ k → ix (setR (unsetR w k).1 k at_ tn).1.1 j = ix w.1 j) ∧ ix (setR (unsetR w k).1 k at_ tn).1.1 k = (true, at_, tn) := by
  obtain ⟨u1, u2, u3, u4⟩ := h.unset k0 k1
  have hl := h.lenw
  unfold setR
  rw [if_neg (by rw [u4, u2]; simp; omega)]
  refine ⟨rfl, u1, by simp [withR, u2], fun j j0 j1 hj => ?_, ?_⟩
  · simp only [withR]; rw [ix_set k0 (by rw [u2, hl]; exact k1) j0, if_neg (Ne.symm hj)]; exact u3 j j0 j1 hj
  · simp only [withR]; rw [ix_set k0 (by rw [u2, hl]; exact k1) k0, if_pos rfl]
theorem u0 : u64ok 0 := ⟨by decide, by decide⟩
theorem BookR.turn_ok (h : BookR b turn d w) : 0 ≤ turn ∧ turn < 9223372036854775807 := by rw [h.turn]; exact h.turn0
theorem pairB (b : Bo) (h : turn = b.2.1) (l : List Tm) : (l, turn, b.2.2) = ((l, b.2) : Bo) := by rw [h]
theorem BookR.idle (h : BookR b turn d w) (k0 : 0 ≤ k) (k1 : k < b.1.length) (hw : w'.2 = w.2) (hl : w'.1.length = w.1.length) (hne : ∀ j : Int, 0 ≤ j → j < b.1.length → j ≠ k → ix w'.1 j = ix w.1 j) (hk : ix w'.1 k = (false, 0, 0)) : BookR (withB b k idle) turn (putG d k (true, noRw)) w' := by
  have := h.upd (t := (true, 0, 0, 0, 0, 0)) (p := (true, noRw)) k0 k1 (Int.le_refl _) h.turn_ok.2 hw hl hne ⟨rfl, fun _ => rfl, (fun e => by cases e), hk, by decide, ⟨Int.le_refl _, h.turn_ok.1⟩, ⟨u0, u0, u0⟩⟩
  rw [pairB b h.turn] at this
  exact this
theorem BookR.off (h : BookR b turn d w) (k0 : 0 ≤ k) (k1 : k < b.1.length) (hs : (ix b.1 k).2.1 ≠ 1) : ix w.1 k = (false, 0, 0) := by
  have e := (h.all k k0 k1).on
  rw [if_neg hs] at e
  exact e
theorem BookR.make {ok : Bool} (h : BookR b turn d w) (hn : NextP (fun i => !(ix d i).1) 0 d.length k ok) :
    NextP (fun i => !(ix b.1 i).1) 0 b.1.length k ok ∧ BookR (makeB b k ok) turn (if ok = true then putG d k (true, noRw) else d) w := by
  rw [h.len] at hn
  have hn' : NextP (fun i => !(ix b.1 i).1) 0 b.1.length k ok := hn.congr fun i i0 i1 => by rw [(h.all i i0 i1).is]
  refine ⟨hn', ?_⟩
  cases ok with
  | false => exact h
  | true =>
    rcases hn' with ⟨_, k0, k1, hk, _⟩ | ⟨e, _⟩
    · have k0 : 0 ≤ k := by omega
      refine h.idle k0 k1 rfl rfl (fun _ _ _ _ => rfl) (h.off k0 k1 ?_)
      rw [(h.all k k0 k1).non (by simpa using hk)]
      decide
    · cases e
theorem BookR.free (h : BookR b turn d w) (k : Int) : BookR (freeB b k) turn (if hasG d k = true then putG d k (false, noRw) else d) (if hasG d k = true then (unsetR w k).1 else w) := by
  rw [h.has k]
  unfold freeB
  cases e : isB b k with
  | false => exact h
  | true =>
    obtain ⟨k0, k1, _⟩ := isB_iff.1 e
    obtain ⟨u1, u2, u3, u4⟩ := h.unset k0 k1
    have := h.upd (t := noTm) (p := (false, noRw)) k0 k1 (Int.le_refl _) h.turn_ok.2 u1 u2 u3 ⟨rfl, (fun e => by cases e), fun _ => rfl, u4, by decide, ⟨Int.le_refl _, h.turn_ok.1⟩, ⟨u0, u0, u0⟩⟩
    rw [pairB b h.turn] at this
    exact this
theorem BookR.look (h : BookR b turn d w) (k : Int) : (if hasG d k = true then (ix d k).2 else noRw) = lookB b k := by
  rw [h.has k]
  unfold lookB
  cases e : isB b k with
  | false => rfl
  | true =>
    obtain ⟨k0, k1, hk⟩ := isB_iff.1 e
    exact (h.all k k0 k1).row hk
theorem BookR.arm {hd at_ p : Int} (h : BookR b turn d w) (k : Int) (hh : u64ok hd) (ha : u64ok at_) (hp : u64ok p) (ht : okTurn b) :
    BookR (armB b k hd at_ p) (if hasG d k = true then turn + 1 else turn) (if hasG d k = true then putG d k (true, 1, hd, at_, p) else d) (if hasG d k = true then (setR (unsetR w k).1 k at_ (turn + 1)).1 else w) ∧ (hasG d k && (setR (unsetR w k).1 k at_ (turn + 1)).2) = isB b k := by
  rw [h.has k]
  unfold armB
  cases e : isB b k with
  | false => exact ⟨h, rfl⟩
  | true =>
    obtain ⟨k0, k1, _⟩ := isB_iff.1 e
    obtain ⟨r1, r2, r3, r4, r5⟩ := h.reset k0 k1 at_ (turn + 1)
    have e1 := h.turn
    have := ht.2
    refine ⟨?_, by rw [r1]; rfl⟩
    have := h.upd (turn' := turn + 1) (t := (true, 1, hd, at_, p, turn + 1)) (p := (true, 1, hd, at_, p)) k0 k1 (by omega) (by omega) r2 r3 r4 ⟨rfl, fun _ => rfl, (fun e => by cases e), r5, ⟨show (0 : Int) ≤ 1 by decide, show (1 : Int) ≤ 2 by decide⟩, ⟨by have := h.turn_ok; simp only; omega, Int.le_refl _⟩, ⟨hh, ha, hp⟩⟩
    rw [e1] at this ⊢
    exact this
theorem BookR.state (h : BookR b turn d w) (e : isB b k = true) : (ix d k).2.1 = (ix b.1 k).2.1 := by
  obtain ⟨k0, k1, hk⟩ := isB_iff.1 e
  rw [(h.all k k0 k1).row hk]
theorem BookR.stopI (h : BookR b turn d w) (k : Int) : stopG d k = Go.Proofs.YtplefbcgpbdkfaaDoor.stopI b k := by
  unfold stopG Go.Proofs.YtplefbcgpbdkfaaDoor.stopI
  rw [h.has k]
  cases e : isB b k with
  | false => rfl
  | true => rw [h.state e]
theorem BookR.stop (h : BookR b turn d w) (k : Int) : BookR (stopB b k) turn (if stopG d k = true then putG d k (true, noRw) else d) (if stopG d k = true then (unsetR w k).1 else w) := by
  rw [h.stopI k]
  unfold stopB
  cases e : Go.Proofs.YtplefbcgpbdkfaaDoor.stopI b k with
  | false => exact h
  | true =>
    have e1 : isB b k = true := by unfold Go.Proofs.YtplefbcgpbdkfaaDoor.stopI at e; simp only [Bool.and_eq_true] at e; exact e.1
    obtain ⟨k0, k1, _⟩ := isB_iff.1 e1
    obtain ⟨u1, u2, u3, u4⟩ := h.unset k0 k1
    exact h.idle k0 k1 u1 u2 u3 u4
theorem BookR.sentI (h : BookR b turn d w) (k : Int) : sentG d k = Go.Proofs.YtplefbcgpbdkfaaDoor.sentI b k := by
  unfold sentG Go.Proofs.YtplefbcgpbdkfaaDoor.sentI
  rw [h.has k]
  cases e : isB b k with
  | false => rfl
  | true => rw [h.state e]
theorem BookR.rw_ (h : BookR b turn d w) (hk : hasG d k = true) : RwU (ix d k).2 := by
  rw [h.has k] at hk
  obtain ⟨k0, k1, hk⟩ := isB_iff.1 hk
  have hh := h.all k k0 k1
  rw [hh.row hk]
  exact ⟨hh.u64.1, hh.u64.2.1, hh.u64.2.2⟩
theorem BookR.sent {stamp : Int} (h : BookR b turn d w) (k : Int) (hs : u64ok stamp) (ht : okTurn b) :
    BookR (sentB b k stamp).1 (if sentG d k = true then (if (nextC (ix d k).2.2.2.1 (ix d k).2.2.2.2 stamp).2.2 = true then turn + 1 else turn) else turn)
      (if sentG d k = true then (if (nextC (ix d k).2.2.2.1 (ix d k).2.2.2.2 stamp).2.2 = true then putG d k (true, 1, (ix d k).2.2.1, (nextC (ix d k).2.2.2.1 (ix d k).2.2.2.2 stamp).1, (ix d k).2.2.2.2) else putG d k (true, noRw)) else d)
      (if sentG d k = true then (if (nextC (ix d k).2.2.2.1 (ix d k).2.2.2.2 stamp).2.2 = true then (setR (unsetR w k).1 k (nextC (ix d k).2.2.2.1 (ix d k).2.2.2.2 stamp).1 (turn + 1)).1 else w) else w) ∧
    (if sentG d k = true then (if (nextC (ix d k).2.2.2.1 (ix d k).2.2.2.2 stamp).2.2 = true then (nextC (ix d k).2.2.2.1 (ix d k).2.2.2.2 stamp).2.1 else 1) else 0) = (sentB b k stamp).2 := by
  rw [h.sentI k]
  unfold sentB
  cases e : Go.Proofs.YtplefbcgpbdkfaaDoor.sentI b k with
  | false => exact ⟨h, rfl⟩
  | true =>
    have e1 : isB b k = true ∧ (ix b.1 k).2.1 = 2 := by unfold Go.Proofs.YtplefbcgpbdkfaaDoor.sentI at e; simp only [Bool.and_eq_true, decide_eq_true_eq] at e; exact e
    obtain ⟨k0, k1, hk⟩ := isB_iff.1 e1.1
    have hh := h.all k k0 k1
    have hrow := hh.row hk
    have hhas := h.has k
    rw [e1.1] at hhas
    rw [hrow]
    simp only [if_true]
    cases hn : (nextC (ix b.1 k).2.2.2.1 (ix b.1 k).2.2.2.2.1 stamp).2.2 with
    | false => exact ⟨h.idle k0 k1 rfl rfl (fun _ _ _ _ => rfl) (h.off k0 k1 (by rw [e1.2]; decide)), rfl⟩
    | true =>
      refine ⟨?_, rfl⟩
      have := (h.arm k hh.u64.1 (next_u64 hh.u64.2.1 hh.u64.2.2 hs) hh.u64.2.2 ht).1
      rw [hhas] at this
      exact this
theorem toG_length : ∀ {ks : List Int} {d : Rg}, (toG d ks).length = d.length
  | [], d => rfl
  | k :: ks, d => by
    show (toG (dueG d k) ks).length = _
    rw [toG_length]
    unfold dueG
    split
    · simp [putG]
    · rfl
theorem toG_get : ∀ {ks : List Int} {d : Rg} {i : Int}, 0 ≤ i → i < d.length → ix (toG d ks) i = if i ∈ ks ∧ (ix d i).1 = true then (true, 2, (ix d i).2.2) else ix d i
  | [], d, i, _, _ => by simp [toG]
  | k :: ks, d, i, h0, h1 => by
    show ix (toG (dueG d k) ks) i = _
    have hl : (dueG d k).length = d.length := toG_length (ks := [k])
    rw [toG_get h0 (by rw [hl]; exact h1)]
    have hg : ix (dueG d k) i = if i = k ∧ (ix d i).1 = true then (true, 2, (ix d i).2.2) else ix d i := by
      unfold dueG
      by_cases c : hasG d k = true
      · rw [if_pos c]
        have c' := c
        unfold hasG at c'
        simp only [Bool.and_eq_true, decide_eq_true_eq] at c'
        unfold putG
        rw [ix_set c'.1 c'.2.1 h0]
        by_cases e : k = i
        · subst e; rw [if_pos rfl, if_pos ⟨rfl, c'.2.2⟩]
        · rw [if_neg e, if_neg (fun q => e q.1.symm)]
      · rw [if_neg c, if_neg]
        rintro ⟨rfl, q⟩
        exact c (by unfold hasG; simp [h0, h1, q])
    rw [hg]
    by_cases q : (ix d i).1 = true
    · by_cases e : i = k
      · subst e; simp [q]
      · simp [q, e]
    · simp [q]
theorem BookR.to (h : BookR b turn d w) {to : Int} (ht : u64ok to) : BookR (toB b to) turn (toG d (outR w to)) (toR w to) ∧ outR w to = outR (whB b) to := by
  have hw := h.wh
  refine ⟨?_, by rw [hw]⟩
  rw [hw]
  have hlb : (toB b to).1.length = b.1.length := by simp [toB]
  have hnow : u64ok (nowR (whB b) to) := by
    unfold nowR
    split
    · exact ht
    · exact h.nowu
  refine ⟨h.turn, h.turn0, rfl, hnow, by rw [toG_length, h.len, hlb], by simp [toR, clr, whB, toB], by rw [hlb]; exact h.le, fun k k0 k1 => ?_⟩
  rw [hlb] at k1
  have hk := h.all k k0 k1
  have ew : ix (whB b).1 k = mkT (ix b.1 k) := ix_map k0 k1
  have e1 : ix (toB b to).1 k = if (mkT (ix b.1 k)).1 && decide ((mkT (ix b.1 k)).2.1 ≤ nowR (whB b) to) then dueT (ix b.1 k) else ix b.1 k := ix_map k0 k1
  have e2 : ix (toR (whB b) to).1 k = clrOne (nowR (whB b) to) (mkT (ix b.1 k)) := by
    rw [← ew]
    exact ix_map k0 (by simp [whB]; exact k1)
  have e3 : (k ∈ outR (whB b) to) ↔ ((mkT (ix b.1 k)).1 && decide ((mkT (ix b.1 k)).2.1 ≤ nowR (whB b) to)) = true := by
    unfold outR
    rw [srt_mem, dueN_mem]
    unfold dueB
    rw [ew]
    constructor
    · exact fun q => q.2.2
    · exact fun q => ⟨k0, by simp [whB]; exact k1, q⟩
  rw [e1, e2, toG_get k0 (by rw [h.len]; exact k1)]
  have hon := hk.on
  have hm := hk.mk_
  by_cases c : ((mkT (ix b.1 k)).1 && decide ((mkT (ix b.1 k)).2.1 ≤ nowR (whB b) to)) = true
  · have hs : (ix b.1 k).2.1 = 1 := by
      by_cases q : (ix b.1 k).2.1 = 1
      · exact q
      · unfold mkT at c; rw [if_neg q] at c; simp at c
    have hi : (ix b.1 k).1 = true := by
      cases q : (ix b.1 k).1 with
      | true => rfl
      | false => rw [hk.non q] at hs; cases hs
    have hdi : (ix d k).1 = true := by rw [hk.is]; exact hi
    rw [if_pos c, if_pos ⟨e3.2 c, hdi⟩]
    unfold clrOne
    rw [if_pos c]
    unfold dueT
    refine ⟨hi.symm, fun _ => ?_, fun q => ?_, rfl, ⟨show (0 : Int) ≤ 2 by decide, show (2 : Int) ≤ 2 by decide⟩, hk.turn, hk.u64⟩
    · rw [hk.row hi]
    · rw [show (ix b.1 k).1 = false from q] at hi; cases hi
  · rw [if_neg c, if_neg (fun q => c (e3.1 q.1))]
    unfold clrOne
    rw [if_neg c]
    exact ⟨hk.is, hk.row, hk.non, rfl, hk.state, hk.turn, hk.u64⟩
theorem BookR.new {now : Int} (hn : u64ok now) (hd : freeG d) : BookR (List.replicate d.length noTm, 0, now) 0 d (List.replicate (cut4096 d.length) (false, 0, 0), now) := by
  have hc : cut4096 (d.length : Int) = d.length := by
    have := hd.1
    unfold cut4096
    rw [if_neg (by omega), if_neg (by omega)]
    omega
  rw [hc]
  refine ⟨rfl, ⟨show (0 : Int) ≤ 0 by decide, show (0 : Int) < 9223372036854775807 by decide⟩, rfl, hn, by simp, by simp, by simp; exact hd.1, fun k k0 k1 => ?_⟩
  simp only [List.length_replicate] at k1
  rw [ix_rep k0 k1, ix_rep k0 k1]
  exact ⟨hd.2 k k0 k1, (fun e => by cases e), fun _ => rfl, rfl, by decide, ⟨show (0 : Int) ≤ 0 by decide, show (0 : Int) ≤ 0 by decide⟩, ⟨u0, u0, u0⟩⟩
end
end Go.Proofs.YtplefbcgpbdkfaaDoor
/- Package alarm: the contracts over whole books hold. -/
namespace Go.Proofs.YtplefbcgpbdkfaaDoor
open Go Go.Fx
-- ENV: KN

set_option maxRecDepth 10000 in
theorem b2new_vc :
  ∀ x0 : (Int × Int),
 ∀ x1 : Int,
 ∀ x2 : List ((Int × Int) × List (Bool × (Int × (Int × (Int × Int))))),
 ∀ x3 : List ((Int × Int) × (List (Bool × (Int × (Int × (Int × (Int × Int))))) × (Int × Int))),
 ((hasA x0 x2 = true) ∧
 ((u64ok x1) ∧
 (freeG (rgA x0 x2)))) →
 (hasA x0 x2 = true) ∧
 ((u64ok x1) ∧
 (True →
 ∃ x4 : (List (Bool × (Int × (Int × (Int × (Int × Int))))) × (Int × Int)),
 (BookR x4 (0 : Int) (getA [] x0 x2) (List.replicate (cut4096 (↑(List.length (getA [] x0 x2)) : Int)) (false, (0 : Int), (0 : Int)), x1)) ∧
 (∀ x5 : Int × Int,
 (((0 : Int) ≤ Prod.fst x5) ∧
 ((0 : Int) ≤ Prod.snd x5)) →
 (freshA x3 x5) →
 ∃ x6 : (Int × Int),
 ∃ x7 : List ((Int × Int) × List (Bool × (Int × (Int × (Int × Int))))),
 ∃ x8 : List ((Int × Int) × (List (Bool × (Int × (Int × (Int × (Int × Int))))) × (Int × Int))),
 ((((0 : Int) ≤ Prod.fst x6) ∧
 ((0 : Int) ≤ Prod.snd x6)) ∧
 ((freshA x3 x6) ∧
 (UpA x6 (List.replicate (List.length (rgA x0 x2)) noTm, (0 : Int), x1) x3 x8))) ∧
 ((x5 = x6) ∧
 ((delA x0 x2 = x7) ∧
 (((x5, x4) :: x3 = x8) ∧
        (True))))))) := by
  rintro e now g l ⟨hg, hn, hf⟩
  refine ⟨hg, hn, fun _ => ⟨_, BookR.new hn hf, fun q q0 hq => ⟨q, _, _, ⟨q0, hq, .new⟩, rfl, rfl, rfl, trivial⟩⟩⟩
set_option maxRecDepth 10000 in
theorem b2new_ok : conB2New.ok KN Tryd.prog 30 := by
  refine Con.view_sound (op := .m 0 1) (back := false) (res := .a 3) anew_ok rfl (@toVC _ _ b2new_vc ?_)
  kernel_rfl
noncomputable def G94 : List (FuncId × Con) := (30, conB2New) :: G93
theorem G94_ok : GOK KN Tryd.prog G94 := GOK.cons (Callable.of Tryd.func30 (by kernel_rfl) (by kernel_rfl)) b2new_ok G93_ok

set_option maxRecDepth 10000 in
theorem b2make_vc :
  ∀ x0 : (Int × Int),
 ∀ x1 : List ((Int × Int) × (List (Bool × (Int × (Int × (Int × (Int × Int))))) × (Int × Int))),
 (hasA x0 x1 = true) →
 (hasA x0 x1 = true) ∧
 (∀ x2 : Int,
 ∀ x3 : List (Bool × (Int × (Int × (Int × Int)))),
 ∀ x4 : (List (Bool × (Int × Int)) × Int),
 (BookR (getA ([], (0 : Int), (0 : Int)) x0 x1) x2 x3 x4) →
 (True) ∧
 (∀ x5 : Int,
 ∀ x6 : Bool,
 (NextP (fun (i : Int) => !Prod.fst (ix x3 i)) (0 : Int) (↑(List.length x3) : Int) x5 x6) →
 ∃ x7 : (List (Bool × (Int × (Int × (Int × (Int × Int))))) × (Int × Int)),
 (BookR x7 x2 (if x6 = true then putG x3 x5 (true, noRw) else x3) x4) ∧
 (∃ x8 : Int,
 ∃ x9 : Bool,
 ∃ x10 : List ((Int × Int) × (List (Bool × (Int × (Int × (Int × (Int × Int))))) × (Int × Int))),
 ((NextP (fun (i : Int) => !Prod.fst (ix (Prod.fst (bkA x0 x1)) i)) (0 : Int) (↑(List.length (Prod.fst (bkA x0 x1))) : Int) x8 x9) ∧
 (UpA x0 (makeB (bkA x0 x1) x8 x9) x1 x10)) ∧
 ((x5 = x8) ∧
 ((x6 = x9) ∧
 (((x0, x7) :: delA x0 x1 = x10) ∧
        (True))))))) := by
  rintro e l he
  refine ⟨he, fun turn d w h => ⟨trivial, fun k ok hn => ?_⟩⟩
  obtain ⟨h1, h2⟩ := h.make hn
  exact ⟨_, h2, k, ok, _, ⟨h1, .up⟩, rfl, rfl, rfl, trivial⟩
set_option maxRecDepth 10000 in
theorem b2make_ok : conB2Make.ok KN Tryd.prog 12 := by
  refine Con.view_sound (op := .a 0 3) (back := true) (res := .none) amake_ok rfl (@toVC _ _ b2make_vc ?_)
  kernel_rfl
noncomputable def G95 : List (FuncId × Con) := (12, conB2Make) :: G94
theorem G95_ok : GOK KN Tryd.prog G95 := GOK.cons (Callable.of Tryd.func12 (by kernel_rfl) (by kernel_rfl)) b2make_ok G94_ok

set_option maxRecDepth 10000 in
theorem b2free_vc :
  ∀ x0 : (Int × Int),
 ∀ x1 : Int,
 ∀ x2 : List ((Int × Int) × (List (Bool × (Int × (Int × (Int × (Int × Int))))) × (Int × Int))),
 (hasA x0 x2 = true) →
 (hasA x0 x2 = true) ∧
 (∀ x3 : Int,
 ∀ x4 : List (Bool × (Int × (Int × (Int × Int)))),
 ∀ x5 : (List (Bool × (Int × Int)) × Int),
 (BookR (getA ([], (0 : Int), (0 : Int)) x0 x2) x3 x4 x5) →
 (True) ∧
 (True →
 ∃ x6 : (List (Bool × (Int × (Int × (Int × (Int × Int))))) × (Int × Int)),
 (BookR x6 x3 (if hasG x4 x1 = true then putG x4 x1 (false, noRw) else x4) (if hasG x4 x1 = true then Prod.fst (unsetR x5 x1) else x5)) ∧
 (∃ x7 : List ((Int × Int) × (List (Bool × (Int × (Int × (Int × (Int × Int))))) × (Int × Int))),
 (UpA x0 (freeB (bkA x0 x2) x1) x2 x7) ∧
 ((hasG x4 x1 = isB (bkA x0 x2) x1) ∧
 (((x0, x6) :: delA x0 x2 = x7) ∧
       (True)))))) := by
  rintro e k l he
  refine ⟨he, fun turn d w h => ⟨trivial, fun _ => ?_⟩⟩
  exact ⟨_, h.free k, _, .up, h.has k, rfl, trivial⟩
set_option maxRecDepth 10000 in
theorem b2free_ok : conB2Free.ok KN Tryd.prog 14 := by
  refine Con.view_sound (op := .a 0 3) (back := true) (res := .none) afree_ok rfl (@toVC _ _ b2free_vc ?_)
  kernel_rfl
noncomputable def G96 : List (FuncId × Con) := (14, conB2Free) :: G95
theorem G96_ok : GOK KN Tryd.prog G96 := GOK.cons (Callable.of Tryd.func14 (by kernel_rfl) (by kernel_rfl)) b2free_ok G95_ok

set_option maxRecDepth 10000 in
theorem b2look_vc :
  ∀ x0 : (Int × Int),
 ∀ x1 : Int,
 ∀ x2 : List ((Int × Int) × (List (Bool × (Int × (Int × (Int × (Int × Int))))) × (Int × Int))),
 (hasA x0 x2 = true) →
 (hasA x0 x2 = true) ∧
 (∀ x3 : Int,
 ∀ x4 : List (Bool × (Int × (Int × (Int × Int)))),
 ∀ x5 : (List (Bool × (Int × Int)) × Int),
 (BookR (getA ([], (0 : Int), (0 : Int)) x0 x2) x3 x4 x5) →
 (True) ∧
 (True →
 ∃ x6 : (List (Bool × (Int × (Int × (Int × (Int × Int))))) × (Int × Int)),
 (BookR x6 x3 x4 x5) ∧
 (∃ x7 : List ((Int × Int) × (List (Bool × (Int × (Int × (Int × (Int × Int))))) × (Int × Int))),
 (UpA x0 (bkA x0 x2) x2 x7) ∧
 (((if hasG x4 x1 = true then Prod.snd (ix x4 x1) else noRw) = lookB (bkA x0 x2) x1) ∧
 ((hasG x4 x1 = isB (bkA x0 x2) x1) ∧
 (((x0, x6) :: delA x0 x2 = x7) ∧
        (True))))))) := by
  rintro e k l he
  refine ⟨he, fun turn d w h => ⟨trivial, fun _ => ?_⟩⟩
  exact ⟨_, h, _, .up, h.look k, h.has k, rfl, trivial⟩
set_option maxRecDepth 10000 in
theorem b2look_ok : conB2Look.ok KN Tryd.prog 25 := by
  refine Con.view_sound (op := .a 0 3) (back := true) (res := .none) alook_ok rfl (@toVC _ _ b2look_vc ?_)
  kernel_rfl
noncomputable def G97 : List (FuncId × Con) := (25, conB2Look) :: G96
theorem G97_ok : GOK KN Tryd.prog G97 := GOK.cons (Callable.of Tryd.func25 (by kernel_rfl) (by kernel_rfl)) b2look_ok G96_ok

set_option maxRecDepth 10000 in
theorem b2count_vc :
  ∀ x0 : (Int × Int),
 ∀ x1 : List ((Int × Int) × (List (Bool × (Int × (Int × (Int × (Int × Int))))) × (Int × Int))),
 (hasA x0 x1 = true) →
 (hasA x0 x1 = true) ∧
 (∀ x2 : Int,
 ∀ x3 : List (Bool × (Int × (Int × (Int × Int)))),
 ∀ x4 : (List (Bool × (Int × Int)) × Int),
 (BookR (getA ([], (0 : Int), (0 : Int)) x0 x1) x2 x3 x4) →
 (True) ∧
 (True →
 ∃ x5 : (List (Bool × (Int × (Int × (Int × (Int × Int))))) × (Int × Int)),
 (BookR x5 x2 x3 x4) ∧
 (∃ x6 : List ((Int × Int) × (List (Bool × (Int × (Int × (Int × (Int × Int))))) × (Int × Int))),
 (UpA x0 (bkA x0 x1) x1 x6) ∧
 ((cntG x3 = Prod.fst (cntB (Prod.fst (bkA x0 x1)))) ∧
 (((x0, x5) :: delA x0 x1 = x6) ∧
       (True)))))) := by
  rintro e l he
  refine ⟨he, fun turn d w h => ⟨trivial, fun _ => ?_⟩⟩
  exact ⟨_, h, _, .up, h.cnt, rfl, trivial⟩
set_option maxRecDepth 10000 in
theorem b2count_ok : conB2Count.ok KN Tryd.prog 27 := by
  refine Con.view_sound (op := .a 0 3) (back := true) (res := .none) acount_ok rfl (@toVC _ _ b2count_vc ?_)
  kernel_rfl
noncomputable def G98 : List (FuncId × Con) := (27, conB2Count) :: G97
theorem G98_ok : GOK KN Tryd.prog G98 := GOK.cons (Callable.of Tryd.func27 (by kernel_rfl) (by kernel_rfl)) b2count_ok G97_ok

set_option maxRecDepth 10000 in
theorem b2armed_vc :
  ∀ x0 : (Int × Int),
 ∀ x1 : List ((Int × Int) × (List (Bool × (Int × (Int × (Int × (Int × Int))))) × (Int × Int))),
 (hasA x0 x1 = true) →
 (hasA x0 x1 = true) ∧
 (∀ x2 : Int,
 ∀ x3 : List (Bool × (Int × (Int × (Int × Int)))),
 ∀ x4 : (List (Bool × (Int × Int)) × Int),
 (BookR (getA ([], (0 : Int), (0 : Int)) x0 x1) x2 x3 x4) →
 (True) ∧
 (True →
 ∃ x5 : (List (Bool × (Int × (Int × (Int × (Int × Int))))) × (Int × Int)),
 (BookR x5 x2 x3 x4) ∧
 (∃ x6 : List ((Int × Int) × (List (Bool × (Int × (Int × (Int × (Int × Int))))) × (Int × Int))),
 (UpA x0 (bkA x0 x1) x1 x6) ∧
 ((lenR (Prod.fst x4) = Prod.snd (cntB (Prod.fst (bkA x0 x1)))) ∧
 (((x0, x5) :: delA x0 x1 = x6) ∧
       (True)))))) := by
  rintro e l he
  refine ⟨he, fun turn d w h => ⟨trivial, fun _ => ?_⟩⟩
  exact ⟨_, h, _, .up, h.armed, rfl, trivial⟩
set_option maxRecDepth 10000 in
theorem b2armed_ok : conB2Armed.ok KN Tryd.prog 26 := by
  refine Con.view_sound (op := .a 0 3) (back := true) (res := .none) aarmed_ok rfl (@toVC _ _ b2armed_vc ?_)
  kernel_rfl
noncomputable def G99 : List (FuncId × Con) := (26, conB2Armed) :: G98
theorem G99_ok : GOK KN Tryd.prog G99 := GOK.cons (Callable.of Tryd.func26 (by kernel_rfl) (by kernel_rfl)) b2armed_ok G98_ok

set_option maxRecDepth 10000 in
theorem b2arm_vc :
  ∀ x0 : (Int × Int),
 ∀ x1 : Int,
 ∀ x2 : Int,
 ∀ x3 : Int,
 ∀ x4 : Int,
 ∀ x5 : List ((Int × Int) × (List (Bool × (Int × (Int × (Int × (Int × Int))))) × (Int × Int))),
 ((hasA x0 x5 = true) ∧
 ((u64ok x2) ∧
 ((u64ok x3) ∧
 ((u64ok x4) ∧
 (okTurn (bkA x0 x5)))))) →
 (hasA x0 x5 = true) ∧
 (∀ x6 : Int,
 ∀ x7 : List (Bool × (Int × (Int × (Int × Int)))),
 ∀ x8 : (List (Bool × (Int × Int)) × Int),
 (BookR (getA ([], (0 : Int), (0 : Int)) x0 x5) x6 x7 x8) →
 ((u64ok x3) ∧
 (((0 : Int) ≤ x6) ∧
 (x6 < (9223372036854775807 : Int)))) ∧
 (True →
 ∃ x9 : (List (Bool × (Int × (Int × (Int × (Int × Int))))) × (Int × Int)),
 (BookR x9 (if hasG x7 x1 = true then x6 + (1 : Int) else x6) (if hasG x7 x1 = true then putG x7 x1 (true, (1 : Int), x2, x3, x4) else x7) (if hasG x7 x1 = true then Prod.fst (setR (Prod.fst (unsetR x8 x1)) x1 x3 (x6 + (1 : Int))) else x8)) ∧
 (∃ x10 : List ((Int × Int) × (List (Bool × (Int × (Int × (Int × (Int × Int))))) × (Int × Int))),
 (UpA x0 (armB (bkA x0 x5) x1 x2 x3 x4) x5 x10) ∧
 (((hasG x7 x1 && Prod.snd (setR (Prod.fst (unsetR x8 x1)) x1 x3 (x6 + (1 : Int)))) = isB (bkA x0 x5) x1) ∧
 (((x0, x9) :: delA x0 x5 = x10) ∧
       (True)))))) := by
  rintro e k hd at_ p l ⟨he, hh, ha, hp, ht⟩
  refine ⟨he, fun turn d w h => ⟨⟨ha, h.turn_ok⟩, fun _ => ?_⟩⟩
  obtain ⟨h1, h2⟩ := h.arm k hh ha hp ht
  exact ⟨_, h1, _, .up, h2, rfl, trivial⟩
set_option maxRecDepth 10000 in
theorem b2arm_ok : conB2Arm.ok KN Tryd.prog 16 := by
  refine Con.view_sound (op := .a 0 3) (back := true) (res := .none) aarm_ok rfl (@toVC _ _ b2arm_vc ?_)
  kernel_rfl
noncomputable def G100 : List (FuncId × Con) := (16, conB2Arm) :: G99
theorem G100_ok : GOK KN Tryd.prog G100 := GOK.cons (Callable.of Tryd.func16 (by kernel_rfl) (by kernel_rfl)) b2arm_ok G99_ok

set_option maxRecDepth 10000 in
theorem b2stop_vc :
  ∀ x0 : (Int × Int),
 ∀ x1 : Int,
 ∀ x2 : List ((Int × Int) × (List (Bool × (Int × (Int × (Int × (Int × Int))))) × (Int × Int))),
 (hasA x0 x2 = true) →
 (hasA x0 x2 = true) ∧
 (∀ x3 : Int,
 ∀ x4 : List (Bool × (Int × (Int × (Int × Int)))),
 ∀ x5 : (List (Bool × (Int × Int)) × Int),
 (BookR (getA ([], (0 : Int), (0 : Int)) x0 x2) x3 x4 x5) →
 (True) ∧
 (True →
 ∃ x6 : (List (Bool × (Int × (Int × (Int × (Int × Int))))) × (Int × Int)),
 (BookR x6 x3 (if stopG x4 x1 = true then putG x4 x1 (true, noRw) else x4) (if stopG x4 x1 = true then Prod.fst (unsetR x5 x1) else x5)) ∧
 (∃ x7 : List ((Int × Int) × (List (Bool × (Int × (Int × (Int × (Int × Int))))) × (Int × Int))),
 (UpA x0 (stopB (bkA x0 x2) x1) x2 x7) ∧
 ((stopG x4 x1 = stopI (bkA x0 x2) x1) ∧
 (((x0, x6) :: delA x0 x2 = x7) ∧
       (True)))))) := by
  rintro e k l he
  refine ⟨he, fun turn d w h => ⟨trivial, fun _ => ?_⟩⟩
  exact ⟨_, h.stop k, _, .up, h.stopI k, rfl, trivial⟩
set_option maxRecDepth 10000 in
theorem b2stop_ok : conB2Stop.ok KN Tryd.prog 18 := by
  refine Con.view_sound (op := .a 0 3) (back := true) (res := .none) astop_ok rfl (@toVC _ _ b2stop_vc ?_)
  kernel_rfl
noncomputable def G101 : List (FuncId × Con) := (18, conB2Stop) :: G100
theorem G101_ok : GOK KN Tryd.prog G101 := GOK.cons (Callable.of Tryd.func18 (by kernel_rfl) (by kernel_rfl)) b2stop_ok G100_ok

set_option maxRecDepth 10000 in
theorem b2to_vc :
  ∀ x0 : (Int × Int),
 ∀ x1 : Int,
 ∀ x2 : List ((Int × Int) × (List (Bool × (Int × (Int × (Int × (Int × Int))))) × (Int × Int))),
 ((hasA x0 x2 = true) ∧
 (u64ok x1)) →
 (hasA x0 x2 = true) ∧
 (∀ x3 : Int,
 ∀ x4 : List (Bool × (Int × (Int × (Int × Int)))),
 ∀ x5 : (List (Bool × (Int × Int)) × Int),
 (BookR (getA ([], (0 : Int), (0 : Int)) x0 x2) x3 x4 x5) →
 ((u64ok x1) ∧
 (List.length (Prod.fst x5) ≤ (4096 : Nat))) ∧
 (True →
 ∃ x6 : (List (Bool × (Int × (Int × (Int × (Int × Int))))) × (Int × Int)),
 (BookR x6 x3 (toG x4 (outR x5 x1)) (toR x5 x1)) ∧
 (∃ x7 : List Int,
 ∃ x8 : List ((Int × Int) × (List (Bool × (Int × (Int × (Int × (Int × Int))))) × (Int × Int))),
 ((x7 = outR (whB (bkA x0 x2)) x1) ∧
 (UpA x0 (toB (bkA x0 x2) x1) x2 x8)) ∧
 ((outR x5 x1 = x7) ∧
 (((↑(List.length (outR x5 x1)) : Int) = (↑(List.length x7) : Int)) ∧
 (((x0, x6) :: delA x0 x2 = x8) ∧
        (True))))))) := by
  rintro e to l ⟨he, ht⟩
  refine ⟨he, fun turn d w h => ⟨⟨ht, by rw [h.lenw]; exact h.le⟩, fun _ => ?_⟩⟩
  obtain ⟨h1, h2⟩ := h.to ht
  exact ⟨_, h1, _, _, ⟨rfl, .up⟩, h2, by rw [h2]; rfl, rfl, trivial⟩
set_option maxRecDepth 10000 in
theorem b2to_ok : conB2To.ok KN Tryd.prog 21 := by
  refine Con.view_sound (op := .a 0 3) (back := true) (res := .none) ato_ok rfl (@toVC _ _ b2to_vc ?_)
  kernel_rfl
noncomputable def G102 : List (FuncId × Con) := (21, conB2To) :: G101
theorem G102_ok : GOK KN Tryd.prog G102 := GOK.cons (Callable.of Tryd.func21 (by kernel_rfl) (by kernel_rfl)) b2to_ok G101_ok

set_option maxRecDepth 10000 in
theorem b2sent_vc :
  ∀ x0 : (Int × Int),
 ∀ x1 : Int,
 ∀ x2 : Int,
 ∀ x3 : List ((Int × Int) × (List (Bool × (Int × (Int × (Int × (Int × Int))))) × (Int × Int))),
 ((hasA x0 x3 = true) ∧
 ((u64ok x2) ∧
 (okTurn (bkA x0 x3)))) →
 (hasA x0 x3 = true) ∧
 (∀ x4 : Int,
 ∀ x5 : List (Bool × (Int × (Int × (Int × Int)))),
 ∀ x6 : (List (Bool × (Int × Int)) × Int),
 (BookR (getA ([], (0 : Int), (0 : Int)) x0 x3) x4 x5 x6) →
 (((0 : Int) ≤ x4) ∧
 ((x4 < (9223372036854775807 : Int)) ∧
 ((u64ok x2) ∧
 ((hasG x5 x1 = true) →
 RwU (Prod.snd (ix x5 x1)))))) ∧
 (True →
 ∃ x7 : (List (Bool × (Int × (Int × (Int × (Int × Int))))) × (Int × Int)),
 (BookR x7 (if sentG x5 x1 = true then if Prod.snd (Prod.snd (nextC (Prod.fst (Prod.snd (Prod.snd (Prod.snd (ix x5 x1))))) (Prod.snd (Prod.snd (Prod.snd (Prod.snd (ix x5 x1))))) x2)) = true then x4 + (1 : Int) else x4 else x4) (if sentG x5 x1 = true then if Prod.snd (Prod.snd (nextC (Prod.fst (Prod.snd (Prod.snd (Prod.snd (ix x5 x1))))) (Prod.snd (Prod.snd (Prod.snd (Prod.snd (ix x5 x1))))) x2)) = true then putG x5 x1 (true, (1 : Int), Prod.fst (Prod.snd (Prod.snd (ix x5 x1))), Prod.fst (nextC (Prod.fst (Prod.snd (Prod.snd (Prod.snd (ix x5 x1))))) (Prod.snd (Prod.snd (Prod.snd (Prod.snd (ix x5 x1))))) x2), Prod.snd (Prod.snd (Prod.snd (Prod.snd (ix x5 x1))))) else putG x5 x1 (true, noRw) else x5) (if sentG x5 x1 = true then if Prod.snd (Prod.snd (nextC (Prod.fst (Prod.snd (Prod.snd (Prod.snd (ix x5 x1))))) (Prod.snd (Prod.snd (Prod.snd (Prod.snd (ix x5 x1))))) x2)) = true then Prod.fst (setR (Prod.fst (unsetR x6 x1)) x1 (Prod.fst (nextC (Prod.fst (Prod.snd (Prod.snd (Prod.snd (ix x5 x1))))) (Prod.snd (Prod.snd (Prod.snd (Prod.snd (ix x5 x1))))) x2)) (x4 + (1 : Int))) else x6 else x6)) ∧
 (∃ x8 : Int,
 ∃ x9 : List ((Int × Int) × (List (Bool × (Int × (Int × (Int × (Int × Int))))) × (Int × Int))),
 ((x8 = Prod.snd (sentB (bkA x0 x3) x1 x2)) ∧
 (UpA x0 (Prod.fst (sentB (bkA x0 x3) x1 x2)) x3 x9)) ∧
 (((if sentG x5 x1 = true then if Prod.snd (Prod.snd (nextC (Prod.fst (Prod.snd (Prod.snd (Prod.snd (ix x5 x1))))) (Prod.snd (Prod.snd (Prod.snd (Prod.snd (ix x5 x1))))) x2)) = true then Prod.fst (Prod.snd (nextC (Prod.fst (Prod.snd (Prod.snd (Prod.snd (ix x5 x1))))) (Prod.snd (Prod.snd (Prod.snd (Prod.snd (ix x5 x1))))) x2)) else (1 : Int) else (0 : Int)) = x8) ∧
 (((x0, x7) :: delA x0 x3 = x9) ∧
       (True)))))) := by
  rintro e k stamp l ⟨he, hs, ht⟩
  refine ⟨he, fun turn d w h => ⟨⟨h.turn_ok.1, h.turn_ok.2, hs, h.rw_⟩, fun _ => ?_⟩⟩
  obtain ⟨h1, h2⟩ := h.sent k hs ht
  exact ⟨_, h1, _, _, ⟨rfl, .up⟩, h2, rfl, trivial⟩
set_option maxRecDepth 10000 in
theorem b2sent_ok : conB2Sent.ok KN Tryd.prog 23 := by
  refine Con.view_sound (op := .a 0 3) (back := true) (res := .none) asent_ok rfl (@toVC _ _ b2sent_vc ?_)
  kernel_rfl
noncomputable def G103 : List (FuncId × Con) := (23, conB2Sent) :: G102
theorem G103_ok : GOK KN Tryd.prog G103 := GOK.cons (Callable.of Tryd.func23 (by kernel_rfl) (by kernel_rfl)) b2sent_ok G102_ok
end Go.Proofs.YtplefbcgpbdkfaaDoor
