/- Package nightjarlaw08: AlarmPlays holds. -/
import Derived.Test.YtplefbcgpbdkfaaDoorZ5
import Derived.Test.YtplefbcgpbdkfaaDoorRows
import Derived.Test.YtplefbcgpbdkfaaDoorTie
import Derived.Test.YtplefbcgpbdkfaaDoorCards
import Derived.Test.YtplefbcgpbdkfaaDoorFt
import Derived.LaidMore
import Derived.Lib.LaidTab
import Derived.MakeChecks
import Derived.SevenTiedAt
set_option linter.all false
namespace Go.Proofs.YtplefbcgpbdkfaaDoor
open Go Go.Fx
-- ENV: KN

set_option maxRecDepth 10000 in
theorem alarmPlays_vc :
  ∀ x0 : Int,
 ∀ x1 : Int,
 ∀ x2 : List (Int × (Int × (Int × (Int × (Int × Bool))))),
 ∀ x3 : Int,
 ∀ x4 : ArG,
 ∀ x5 : Ar,
 (((((((True) ∧
 (Fits (Tp.i IntKind.i64) x0)) ∧
 (Fits (Tp.i IntKind.u64) x1)) ∧
 (Fits (Tp.sl (Tp.p (Tp.i IntKind.i64) (Tp.p (Tp.i IntKind.i64) (Tp.p (Tp.i IntKind.u64) (Tp.p (Tp.i IntKind.u64) (Tp.p (Tp.i IntKind.u64) Tp.bo)))))) x2)) ∧
 (Fits (Tp.i IntKind.i64) x3)) ∧
 (IsZ (Tp.sl (Tp.p Tp.pt (Tp.sl (Tp.p Tp.bo (Tp.p (Tp.i IntKind.i64) (Tp.p (Tp.i IntKind.u64) (Tp.p (Tp.i IntKind.u64) (Tp.i IntKind.u64)))))))) x4)) ∧
 (IsZ (Tp.sl (Tp.p Tp.pt (Tp.p (Tp.sl (Tp.p Tp.bo (Tp.p (Tp.i IntKind.i64) (Tp.p (Tp.i IntKind.u64) (Tp.p (Tp.i IntKind.u64) (Tp.p (Tp.i IntKind.u64) (Tp.i IntKind.i64))))))) (Tp.p (Tp.i IntKind.i64) (Tp.i IntKind.u64))))) x5)) →
 (True) ∧
 (∀ x6 : ArG,
 ∀ x7 : Ar,
 True →
 (((!true) = true) →
 ∃ x8 : ArG,
 ∃ x9 : Ar,
 (True) ∧
 (False)) ∧
 (((!true) = false) →
 ((litCmp BinOp.gtr (↑(List.length x2) : Int) (40 : Int) = true) →
 ∃ x10 : ArG,
 ∃ x11 : Ar,
 (True) ∧
 ((x6 = x10) ∧
 ((x7 = x11) ∧
 (True)))) ∧
 ((litCmp BinOp.gtr (↑(List.length x2) : Int) (40 : Int) = false) →
 ∀ x12 : Int,
 (x12 = litArith BinOp.and IntKind.i64 x0 (31 : Int)) →
 (u64ok x1) ∧
 (∀ x13 : (Int × Int),
 ∀ x14 : ArG,
 ∀ x15 : Ar,
 ((((0 : Int) ≤ Prod.fst x13) ∧
 ((0 : Int) ≤ Prod.snd x13)) ∧
 ((freshA x7 x13) ∧
 (UpA x13 (newB (cut256 x12) x1) x7 x15))) →
 (((0 : Int) ≤ x12) ∧
 (x12 ≤ (4096 : Int))) ∧
 (True →
 ∀ x16 : Bo,
 (x16 = (List.replicate (Int.toNat x12) noTm, (0 : Int), x1)) →
 ∃ x17 : Int → Bo → Ar → Prop,
 ∃ x18 : Int → Bo → Ar → Nat,
 (x17 (0 : Int) x16 x15) ∧
 (∀ x19 : Int,
 ∀ x20 : Bo,
 ∀ x21 : Ar,
 (x17 x19 x20 x21) →
 ((litCmp BinOp.lss x19 (↑(List.length x2) : Int) = true) →
 (((0 : Int) ≤ x19) ∧
 (x19 < (↑(List.length x2) : Int))) ∧
 (∀ x22 : (Int × (Int × (Int × (Int × (Int × Bool))))),
 (x22 = ix x2 x19) →
 ∀ x23 : (Int × (Int × (Int × (Int × (Int × Bool))))),
 (x23 = x22) →
 ((Prod.snd (Prod.snd (Prod.snd (Prod.snd (Prod.snd x23)))) = true) →
 ∀ x24 : Int,
 (x24 = litArith BinOp.add IntKind.u64 (Prod.fst (Prod.snd (Prod.snd (Prod.snd x23)))) (Prod.snd (Prod.snd x20))) →
 ((litCmp BinOp.eql (Prod.fst x23) (0 : Int) = true) →
 (List.length (Prod.fst x20) ≤ (4096 : Nat)) ∧
 (∀ x25 : Int,
 ∀ x26 : Bool,
 (NextP (fun (i : Int) => !Prod.fst (ix (Prod.fst x20) i)) (0 : Int) (↑(List.length (Prod.fst x20)) : Int) x25 x26) →
 ∀ x27 : Bo,
 (x27 = makeB x20 x25 x26) →
 ∀ x28 : Bo,
 (x28 = x27) →
 (hasA x13 x21 = true) ∧
 (∀ x29 : Int,
 ∀ x30 : Bool,
 ∀ x31 : Ar,
 ((NextP (fun (i : Int) => !Prod.fst (ix (Prod.fst (bkA x13 x21)) i)) (0 : Int) (↑(List.length (Prod.fst (bkA x13 x21))) : Int) x29 x30) ∧
 (UpA x13 (makeB (bkA x13 x21) x29 x30) x21 x31)) →
 ((litCmp BinOp.neq x29 x25 = true) →
 ∃ x32 : ArG,
 ∃ x33 : Ar,
 (True) ∧
 (False)) ∧
 ((litCmp BinOp.neq x29 x25 = false) →
 (((!x30 == x26) = true) →
 ∃ x34 : ArG,
 ∃ x35 : Ar,
 (True) ∧
 (False)) ∧
 (((!x30 == x26) = false) →
 ((hasA x13 x31 = true) ∧
 ((bkA x13 x31 = x28) ∧
 (List.length (Prod.fst x28) ≤ (4096 : Nat)))) ∧
 (∀ x36 : Ar,
 (UpA x13 x28 x31 x36) →
 (((!true) = true) →
 ∃ x37 : ArG,
 ∃ x38 : Ar,
 (True) ∧
 (False)) ∧
 (((!true) = false) →
 ((hasA x13 x36 = true) ∧
 ((bkA x13 x36 = x28) ∧
 (List.length (Prod.fst x28) ≤ (4096 : Nat)))) ∧
 (∀ x39 : Ar,
 (UpA x13 x28 x36 x39) →
 (((!true) = true) →
 ∃ x40 : ArG,
 ∃ x41 : Ar,
 (True) ∧
 (False)) ∧
 (((!true) = false) →
 ∀ x42 : Int,
 (x42 = litArith BinOp.add IntKind.i64 x19 (1 : Int)) →
 (x3 = x3) ∧
 ((x13 = x13) ∧
 ((x2 = x2) ∧
 (((↑(List.length x2) : Int) = (↑(List.length x2) : Int)) ∧
 (((↑(List.length x2) : Int) = (↑(List.length x2) : Int)) ∧
 ((x14 = x14) ∧
 ((x17 x42 x28 x39) ∧
 (x18 x42 x28 x39 < x18 x19 x20 x21)))))))))))))))) ∧
 ((litCmp BinOp.eql (Prod.fst x23) (0 : Int) = false) →
 ((litCmp BinOp.eql (Prod.fst x23) (1 : Int) = true) →
 (List.length (Prod.fst x20) ≤ (4096 : Nat)) ∧
 (True →
 ∀ x43 : Bo,
 (x43 = freeB x20 (Prod.fst (Prod.snd x23))) →
 ∀ x44 : Bo,
 (x44 = x43) →
 (hasA x13 x21 = true) ∧
 (∀ x45 : Ar,
 (UpA x13 (freeB (bkA x13 x21) (Prod.fst (Prod.snd x23))) x21 x45) →
 (((!isB (bkA x13 x21) (Prod.fst (Prod.snd x23)) == isB x20 (Prod.fst (Prod.snd x23))) = true) →
 ∃ x46 : ArG,
 ∃ x47 : Ar,
 (True) ∧
 (False)) ∧
 (((!isB (bkA x13 x21) (Prod.fst (Prod.snd x23)) == isB x20 (Prod.fst (Prod.snd x23))) = false) →
 ((hasA x13 x45 = true) ∧
 ((bkA x13 x45 = x44) ∧
 (List.length (Prod.fst x44) ≤ (4096 : Nat)))) ∧
 (∀ x48 : Ar,
 (UpA x13 x44 x45 x48) →
 (((!true) = true) →
 ∃ x49 : ArG,
 ∃ x50 : Ar,
 (True) ∧
 (False)) ∧
 (((!true) = false) →
 ((hasA x13 x48 = true) ∧
 ((bkA x13 x48 = x44) ∧
 (List.length (Prod.fst x44) ≤ (4096 : Nat)))) ∧
 (∀ x51 : Ar,
 (UpA x13 x44 x48 x51) →
 (((!true) = true) →
 ∃ x52 : ArG,
 ∃ x53 : Ar,
 (True) ∧
 (False)) ∧
 (((!true) = false) →
 ∀ x54 : Int,
 (x54 = litArith BinOp.add IntKind.i64 x19 (1 : Int)) →
 (x3 = x3) ∧
 ((x13 = x13) ∧
 ((x2 = x2) ∧
 (((↑(List.length x2) : Int) = (↑(List.length x2) : Int)) ∧
 (((↑(List.length x2) : Int) = (↑(List.length x2) : Int)) ∧
 ((x14 = x14) ∧
 ((x17 x54 x44 x51) ∧
 (x18 x54 x44 x51 < x18 x19 x20 x21))))))))))))))) ∧
 ((litCmp BinOp.eql (Prod.fst x23) (1 : Int) = false) →
 ((litCmp BinOp.eql (Prod.fst x23) (2 : Int) = true) →
 ((List.length (Prod.fst x20) ≤ (4096 : Nat)) ∧
 (((0 : Int) ≤ Prod.fst (Prod.snd x20)) ∧
 (Prod.fst (Prod.snd x20) < (9223372036854775807 : Int)))) ∧
 (True →
 ∀ x55 : Bo,
 (x55 = armB x20 (Prod.fst (Prod.snd x23)) (Prod.fst (Prod.snd (Prod.snd x23))) x24 (Prod.fst (Prod.snd (Prod.snd (Prod.snd (Prod.snd x23)))))) →
 ∀ x56 : Bo,
 (x56 = x55) →
 ((hasA x13 x21 = true) ∧
 ((u64ok (Prod.fst (Prod.snd (Prod.snd x23)))) ∧
 ((u64ok x24) ∧
 ((u64ok (Prod.fst (Prod.snd (Prod.snd (Prod.snd (Prod.snd x23)))))) ∧
 (okTurn (bkA x13 x21)))))) ∧
 (∀ x57 : Ar,
 (UpA x13 (armB (bkA x13 x21) (Prod.fst (Prod.snd x23)) (Prod.fst (Prod.snd (Prod.snd x23))) x24 (Prod.fst (Prod.snd (Prod.snd (Prod.snd (Prod.snd x23)))))) x21 x57) →
 (((!isB (bkA x13 x21) (Prod.fst (Prod.snd x23)) == isB x20 (Prod.fst (Prod.snd x23))) = true) →
 ∃ x58 : ArG,
 ∃ x59 : Ar,
 (True) ∧
 (False)) ∧
 (((!isB (bkA x13 x21) (Prod.fst (Prod.snd x23)) == isB x20 (Prod.fst (Prod.snd x23))) = false) →
 ((hasA x13 x57 = true) ∧
 ((bkA x13 x57 = x56) ∧
 (List.length (Prod.fst x56) ≤ (4096 : Nat)))) ∧
 (∀ x60 : Ar,
 (UpA x13 x56 x57 x60) →
 (((!true) = true) →
 ∃ x61 : ArG,
 ∃ x62 : Ar,
 (True) ∧
 (False)) ∧
 (((!true) = false) →
 ((hasA x13 x60 = true) ∧
 ((bkA x13 x60 = x56) ∧
 (List.length (Prod.fst x56) ≤ (4096 : Nat)))) ∧
 (∀ x63 : Ar,
 (UpA x13 x56 x60 x63) →
 (((!true) = true) →
 ∃ x64 : ArG,
 ∃ x65 : Ar,
 (True) ∧
 (False)) ∧
 (((!true) = false) →
 ∀ x66 : Int,
 (x66 = litArith BinOp.add IntKind.i64 x19 (1 : Int)) →
 (x3 = x3) ∧
 ((x13 = x13) ∧
 ((x2 = x2) ∧
 (((↑(List.length x2) : Int) = (↑(List.length x2) : Int)) ∧
 (((↑(List.length x2) : Int) = (↑(List.length x2) : Int)) ∧
 ((x14 = x14) ∧
 ((x17 x66 x56 x63) ∧
 (x18 x66 x56 x63 < x18 x19 x20 x21))))))))))))))) ∧
 ((litCmp BinOp.eql (Prod.fst x23) (2 : Int) = false) →
 ((litCmp BinOp.eql (Prod.fst x23) (3 : Int) = true) →
 (List.length (Prod.fst x20) ≤ (4096 : Nat)) ∧
 (True →
 ∀ x67 : Bo,
 (x67 = stopB x20 (Prod.fst (Prod.snd x23))) →
 ∀ x68 : Bo,
 (x68 = x67) →
 (hasA x13 x21 = true) ∧
 (∀ x69 : Ar,
 (UpA x13 (stopB (bkA x13 x21) (Prod.fst (Prod.snd x23))) x21 x69) →
 (((!stopI (bkA x13 x21) (Prod.fst (Prod.snd x23)) == stopI x20 (Prod.fst (Prod.snd x23))) = true) →
 ∃ x70 : ArG,
 ∃ x71 : Ar,
 (True) ∧
 (False)) ∧
 (((!stopI (bkA x13 x21) (Prod.fst (Prod.snd x23)) == stopI x20 (Prod.fst (Prod.snd x23))) = false) →
 ((hasA x13 x69 = true) ∧
 ((bkA x13 x69 = x68) ∧
 (List.length (Prod.fst x68) ≤ (4096 : Nat)))) ∧
 (∀ x72 : Ar,
 (UpA x13 x68 x69 x72) →
 (((!true) = true) →
 ∃ x73 : ArG,
 ∃ x74 : Ar,
 (True) ∧
 (False)) ∧
 (((!true) = false) →
 ((hasA x13 x72 = true) ∧
 ((bkA x13 x72 = x68) ∧
 (List.length (Prod.fst x68) ≤ (4096 : Nat)))) ∧
 (∀ x75 : Ar,
 (UpA x13 x68 x72 x75) →
 (((!true) = true) →
 ∃ x76 : ArG,
 ∃ x77 : Ar,
 (True) ∧
 (False)) ∧
 (((!true) = false) →
 ∀ x78 : Int,
 (x78 = litArith BinOp.add IntKind.i64 x19 (1 : Int)) →
 (x3 = x3) ∧
 ((x13 = x13) ∧
 ((x2 = x2) ∧
 (((↑(List.length x2) : Int) = (↑(List.length x2) : Int)) ∧
 (((↑(List.length x2) : Int) = (↑(List.length x2) : Int)) ∧
 ((x14 = x14) ∧
 ((x17 x78 x68 x75) ∧
 (x18 x78 x68 x75 < x18 x19 x20 x21))))))))))))))) ∧
 ((litCmp BinOp.eql (Prod.fst x23) (3 : Int) = false) →
 ((litCmp BinOp.eql (Prod.fst x23) (4 : Int) = true) →
 (List.length (Prod.fst x20) ≤ (4096 : Nat)) ∧
 (True →
 ∀ x79 : Bo,
 (x79 = toB x20 x24) →
 ∀ x80 : Bo,
 (x80 = x79) →
 ((hasA x13 x21 = true) ∧
 (u64ok x24)) ∧
 (∀ x81 : List Int,
 ∀ x82 : Ar,
 ((x81 = outR (whB (bkA x13 x21)) x24) ∧
 (UpA x13 (toB (bkA x13 x21) x24) x21 x82)) →
 (List.length x81 ≤ (1000000 : Nat)) ∧
 (True →
 (((!same x81 (outR (whB x20) x24)) = true) →
 ∃ x83 : ArG,
 ∃ x84 : Ar,
 (True) ∧
 (False)) ∧
 (((!same x81 (outR (whB x20) x24)) = false) →
 ((hasA x13 x82 = true) ∧
 ((bkA x13 x82 = x80) ∧
 (List.length (Prod.fst x80) ≤ (4096 : Nat)))) ∧
 (∀ x85 : Ar,
 (UpA x13 x80 x82 x85) →
 (((!true) = true) →
 ∃ x86 : ArG,
 ∃ x87 : Ar,
 (True) ∧
 (False)) ∧
 (((!true) = false) →
 ((hasA x13 x85 = true) ∧
 ((bkA x13 x85 = x80) ∧
 (List.length (Prod.fst x80) ≤ (4096 : Nat)))) ∧
 (∀ x88 : Ar,
 (UpA x13 x80 x85 x88) →
 (((!true) = true) →
 ∃ x89 : ArG,
 ∃ x90 : Ar,
 (True) ∧
 (False)) ∧
 (((!true) = false) →
 ∀ x91 : Int,
 (x91 = litArith BinOp.add IntKind.i64 x19 (1 : Int)) →
 (x3 = x3) ∧
 ((x13 = x13) ∧
 ((x2 = x2) ∧
 (((↑(List.length x2) : Int) = (↑(List.length x2) : Int)) ∧
 (((↑(List.length x2) : Int) = (↑(List.length x2) : Int)) ∧
 ((x14 = x14) ∧
 ((x17 x91 x80 x88) ∧
 (x18 x91 x80 x88 < x18 x19 x20 x21)))))))))))))))) ∧
 ((litCmp BinOp.eql (Prod.fst x23) (4 : Int) = false) →
 ((litCmp BinOp.eql (Prod.fst x23) (5 : Int) = true) →
 ((List.length (Prod.fst x20) ≤ (4096 : Nat)) ∧
 (((0 : Int) ≤ Prod.fst (Prod.snd x20)) ∧
 ((Prod.fst (Prod.snd x20) < (9223372036854775807 : Int)) ∧
 ((u64ok x24) ∧
 (∀ x92 : Int,
 ((0 : Int) ≤ x92) →
 (x92 < (↑(List.length (Prod.fst x20)) : Int)) →
 TmU (ix (Prod.fst x20) x92)))))) ∧
 (True →
 ∀ x93 : Bo,
 (x93 = Prod.fst (sentB x20 (Prod.fst (Prod.snd x23)) x24)) →
 ∀ x94 : Bo,
 (x94 = x93) →
 ((hasA x13 x21 = true) ∧
 ((u64ok x24) ∧
 (okTurn (bkA x13 x21)))) ∧
 (∀ x95 : Int,
 ∀ x96 : Ar,
 ((x95 = Prod.snd (sentB (bkA x13 x21) (Prod.fst (Prod.snd x23)) x24)) ∧
 (UpA x13 (Prod.fst (sentB (bkA x13 x21) (Prod.fst (Prod.snd x23)) x24)) x21 x96)) →
 ((litCmp BinOp.neq x95 (Prod.snd (sentB x20 (Prod.fst (Prod.snd x23)) x24)) = true) →
 ∃ x97 : ArG,
 ∃ x98 : Ar,
 (True) ∧
 (False)) ∧
 ((litCmp BinOp.neq x95 (Prod.snd (sentB x20 (Prod.fst (Prod.snd x23)) x24)) = false) →
 ((hasA x13 x96 = true) ∧
 ((bkA x13 x96 = x94) ∧
 (List.length (Prod.fst x94) ≤ (4096 : Nat)))) ∧
 (∀ x99 : Ar,
 (UpA x13 x94 x96 x99) →
 (((!true) = true) →
 ∃ x100 : ArG,
 ∃ x101 : Ar,
 (True) ∧
 (False)) ∧
 (((!true) = false) →
 ((hasA x13 x99 = true) ∧
 ((bkA x13 x99 = x94) ∧
 (List.length (Prod.fst x94) ≤ (4096 : Nat)))) ∧
 (∀ x102 : Ar,
 (UpA x13 x94 x99 x102) →
 (((!true) = true) →
 ∃ x103 : ArG,
 ∃ x104 : Ar,
 (True) ∧
 (False)) ∧
 (((!true) = false) →
 ∀ x105 : Int,
 (x105 = litArith BinOp.add IntKind.i64 x19 (1 : Int)) →
 (x3 = x3) ∧
 ((x13 = x13) ∧
 ((x2 = x2) ∧
 (((↑(List.length x2) : Int) = (↑(List.length x2) : Int)) ∧
 (((↑(List.length x2) : Int) = (↑(List.length x2) : Int)) ∧
 ((x14 = x14) ∧
 ((x17 x105 x94 x102) ∧
 (x18 x105 x94 x102 < x18 x19 x20 x21))))))))))))))) ∧
 ((litCmp BinOp.eql (Prod.fst x23) (5 : Int) = false) →
 ((hasA x13 x21 = true) ∧
 ((bkA x13 x21 = x20) ∧
 (List.length (Prod.fst x20) ≤ (4096 : Nat)))) ∧
 (∀ x106 : Ar,
 (UpA x13 x20 x21 x106) →
 (((!true) = true) →
 ∃ x107 : ArG,
 ∃ x108 : Ar,
 (True) ∧
 (False)) ∧
 (((!true) = false) →
 ((hasA x13 x106 = true) ∧
 ((bkA x13 x106 = x20) ∧
 (List.length (Prod.fst x20) ≤ (4096 : Nat)))) ∧
 (∀ x109 : Ar,
 (UpA x13 x20 x106 x109) →
 (((!true) = true) →
 ∃ x110 : ArG,
 ∃ x111 : Ar,
 (True) ∧
 (False)) ∧
 (((!true) = false) →
 ∀ x112 : Int,
 (x112 = litArith BinOp.add IntKind.i64 x19 (1 : Int)) →
 (x3 = x3) ∧
 ((x13 = x13) ∧
 ((x2 = x2) ∧
 (((↑(List.length x2) : Int) = (↑(List.length x2) : Int)) ∧
 (((↑(List.length x2) : Int) = (↑(List.length x2) : Int)) ∧
 ((x14 = x14) ∧
 ((x17 x112 x20 x109) ∧
 (x18 x112 x20 x109 < x18 x19 x20 x21)))))))))))))))))) ∧
 ((Prod.snd (Prod.snd (Prod.snd (Prod.snd (Prod.snd x23)))) = false) →
 ((litCmp BinOp.eql (Prod.fst x23) (0 : Int) = true) →
 (List.length (Prod.fst x20) ≤ (4096 : Nat)) ∧
 (∀ x113 : Int,
 ∀ x114 : Bool,
 (NextP (fun (i : Int) => !Prod.fst (ix (Prod.fst x20) i)) (0 : Int) (↑(List.length (Prod.fst x20)) : Int) x113 x114) →
 ∀ x115 : Bo,
 (x115 = makeB x20 x113 x114) →
 ∀ x116 : Bo,
 (x116 = x115) →
 (hasA x13 x21 = true) ∧
 (∀ x117 : Int,
 ∀ x118 : Bool,
 ∀ x119 : Ar,
 ((NextP (fun (i : Int) => !Prod.fst (ix (Prod.fst (bkA x13 x21)) i)) (0 : Int) (↑(List.length (Prod.fst (bkA x13 x21))) : Int) x117 x118) ∧
 (UpA x13 (makeB (bkA x13 x21) x117 x118) x21 x119)) →
 ((litCmp BinOp.neq x117 x113 = true) →
 ∃ x120 : ArG,
 ∃ x121 : Ar,
 (True) ∧
 (False)) ∧
 ((litCmp BinOp.neq x117 x113 = false) →
 (((!x118 == x114) = true) →
 ∃ x122 : ArG,
 ∃ x123 : Ar,
 (True) ∧
 (False)) ∧
 (((!x118 == x114) = false) →
 ((hasA x13 x119 = true) ∧
 ((bkA x13 x119 = x116) ∧
 (List.length (Prod.fst x116) ≤ (4096 : Nat)))) ∧
 (∀ x124 : Ar,
 (UpA x13 x116 x119 x124) →
 (((!true) = true) →
 ∃ x125 : ArG,
 ∃ x126 : Ar,
 (True) ∧
 (False)) ∧
 (((!true) = false) →
 ((hasA x13 x124 = true) ∧
 ((bkA x13 x124 = x116) ∧
 (List.length (Prod.fst x116) ≤ (4096 : Nat)))) ∧
 (∀ x127 : Ar,
 (UpA x13 x116 x124 x127) →
 (((!true) = true) →
 ∃ x128 : ArG,
 ∃ x129 : Ar,
 (True) ∧
 (False)) ∧
 (((!true) = false) →
 ∀ x130 : Int,
 (x130 = litArith BinOp.add IntKind.i64 x19 (1 : Int)) →
 (x3 = x3) ∧
 ((x13 = x13) ∧
 ((x2 = x2) ∧
 (((↑(List.length x2) : Int) = (↑(List.length x2) : Int)) ∧
 (((↑(List.length x2) : Int) = (↑(List.length x2) : Int)) ∧
 ((x14 = x14) ∧
 ((x17 x130 x116 x127) ∧
 (x18 x130 x116 x127 < x18 x19 x20 x21)))))))))))))))) ∧
 ((litCmp BinOp.eql (Prod.fst x23) (0 : Int) = false) →
 ((litCmp BinOp.eql (Prod.fst x23) (1 : Int) = true) →
 (List.length (Prod.fst x20) ≤ (4096 : Nat)) ∧
 (True →
 ∀ x131 : Bo,
 (x131 = freeB x20 (Prod.fst (Prod.snd x23))) →
 ∀ x132 : Bo,
 (x132 = x131) →
 (hasA x13 x21 = true) ∧
 (∀ x133 : Ar,
 (UpA x13 (freeB (bkA x13 x21) (Prod.fst (Prod.snd x23))) x21 x133) →
 (((!isB (bkA x13 x21) (Prod.fst (Prod.snd x23)) == isB x20 (Prod.fst (Prod.snd x23))) = true) →
 ∃ x134 : ArG,
 ∃ x135 : Ar,
 (True) ∧
 (False)) ∧
 (((!isB (bkA x13 x21) (Prod.fst (Prod.snd x23)) == isB x20 (Prod.fst (Prod.snd x23))) = false) →
 ((hasA x13 x133 = true) ∧
 ((bkA x13 x133 = x132) ∧
 (List.length (Prod.fst x132) ≤ (4096 : Nat)))) ∧
 (∀ x136 : Ar,
 (UpA x13 x132 x133 x136) →
 (((!true) = true) →
 ∃ x137 : ArG,
 ∃ x138 : Ar,
 (True) ∧
 (False)) ∧
 (((!true) = false) →
 ((hasA x13 x136 = true) ∧
 ((bkA x13 x136 = x132) ∧
 (List.length (Prod.fst x132) ≤ (4096 : Nat)))) ∧
 (∀ x139 : Ar,
 (UpA x13 x132 x136 x139) →
 (((!true) = true) →
 ∃ x140 : ArG,
 ∃ x141 : Ar,
 (True) ∧
 (False)) ∧
 (((!true) = false) →
 ∀ x142 : Int,
 (x142 = litArith BinOp.add IntKind.i64 x19 (1 : Int)) →
 (x3 = x3) ∧
 ((x13 = x13) ∧
 ((x2 = x2) ∧
 (((↑(List.length x2) : Int) = (↑(List.length x2) : Int)) ∧
 (((↑(List.length x2) : Int) = (↑(List.length x2) : Int)) ∧
 ((x14 = x14) ∧
 ((x17 x142 x132 x139) ∧
 (x18 x142 x132 x139 < x18 x19 x20 x21))))))))))))))) ∧
 ((litCmp BinOp.eql (Prod.fst x23) (1 : Int) = false) →
 ((litCmp BinOp.eql (Prod.fst x23) (2 : Int) = true) →
 ((List.length (Prod.fst x20) ≤ (4096 : Nat)) ∧
 (((0 : Int) ≤ Prod.fst (Prod.snd x20)) ∧
 (Prod.fst (Prod.snd x20) < (9223372036854775807 : Int)))) ∧
 (True →
 ∀ x143 : Bo,
 (x143 = armB x20 (Prod.fst (Prod.snd x23)) (Prod.fst (Prod.snd (Prod.snd x23))) (Prod.fst (Prod.snd (Prod.snd (Prod.snd x23)))) (Prod.fst (Prod.snd (Prod.snd (Prod.snd (Prod.snd x23)))))) →
 ∀ x144 : Bo,
 (x144 = x143) →
 ((hasA x13 x21 = true) ∧
 ((u64ok (Prod.fst (Prod.snd (Prod.snd x23)))) ∧
 ((u64ok (Prod.fst (Prod.snd (Prod.snd (Prod.snd x23))))) ∧
 ((u64ok (Prod.fst (Prod.snd (Prod.snd (Prod.snd (Prod.snd x23)))))) ∧
 (okTurn (bkA x13 x21)))))) ∧
 (∀ x145 : Ar,
 (UpA x13 (armB (bkA x13 x21) (Prod.fst (Prod.snd x23)) (Prod.fst (Prod.snd (Prod.snd x23))) (Prod.fst (Prod.snd (Prod.snd (Prod.snd x23)))) (Prod.fst (Prod.snd (Prod.snd (Prod.snd (Prod.snd x23)))))) x21 x145) →
 (((!isB (bkA x13 x21) (Prod.fst (Prod.snd x23)) == isB x20 (Prod.fst (Prod.snd x23))) = true) →
 ∃ x146 : ArG,
 ∃ x147 : Ar,
 (True) ∧
 (False)) ∧
 (((!isB (bkA x13 x21) (Prod.fst (Prod.snd x23)) == isB x20 (Prod.fst (Prod.snd x23))) = false) →
 ((hasA x13 x145 = true) ∧
 ((bkA x13 x145 = x144) ∧
 (List.length (Prod.fst x144) ≤ (4096 : Nat)))) ∧
 (∀ x148 : Ar,
 (UpA x13 x144 x145 x148) →
 (((!true) = true) →
 ∃ x149 : ArG,
 ∃ x150 : Ar,
 (True) ∧
 (False)) ∧
 (((!true) = false) →
 ((hasA x13 x148 = true) ∧
 ((bkA x13 x148 = x144) ∧
 (List.length (Prod.fst x144) ≤ (4096 : Nat)))) ∧
 (∀ x151 : Ar,
 (UpA x13 x144 x148 x151) →
 (((!true) = true) →
 ∃ x152 : ArG,
 ∃ x153 : Ar,
 (True) ∧
 (False)) ∧
 (((!true) = false) →
 ∀ x154 : Int,
 (x154 = litArith BinOp.add IntKind.i64 x19 (1 : Int)) →
 (x3 = x3) ∧
 ((x13 = x13) ∧
 ((x2 = x2) ∧
 (((↑(List.length x2) : Int) = (↑(List.length x2) : Int)) ∧
 (((↑(List.length x2) : Int) = (↑(List.length x2) : Int)) ∧
 ((x14 = x14) ∧
 ((x17 x154 x144 x151) ∧
 (x18 x154 x144 x151 < x18 x19 x20 x21))))))))))))))) ∧
 ((litCmp BinOp.eql (Prod.fst x23) (2 : Int) = false) →
 ((litCmp BinOp.eql (Prod.fst x23) (3 : Int) = true) →
 (List.length (Prod.fst x20) ≤ (4096 : Nat)) ∧
 (True →
 ∀ x155 : Bo,
 (x155 = stopB x20 (Prod.fst (Prod.snd x23))) →
 ∀ x156 : Bo,
 (x156 = x155) →
 (hasA x13 x21 = true) ∧
 (∀ x157 : Ar,
 (UpA x13 (stopB (bkA x13 x21) (Prod.fst (Prod.snd x23))) x21 x157) →
 (((!stopI (bkA x13 x21) (Prod.fst (Prod.snd x23)) == stopI x20 (Prod.fst (Prod.snd x23))) = true) →
 ∃ x158 : ArG,
 ∃ x159 : Ar,
 (True) ∧
 (False)) ∧
 (((!stopI (bkA x13 x21) (Prod.fst (Prod.snd x23)) == stopI x20 (Prod.fst (Prod.snd x23))) = false) →
 ((hasA x13 x157 = true) ∧
 ((bkA x13 x157 = x156) ∧
 (List.length (Prod.fst x156) ≤ (4096 : Nat)))) ∧
 (∀ x160 : Ar,
 (UpA x13 x156 x157 x160) →
 (((!true) = true) →
 ∃ x161 : ArG,
 ∃ x162 : Ar,
 (True) ∧
 (False)) ∧
 (((!true) = false) →
 ((hasA x13 x160 = true) ∧
 ((bkA x13 x160 = x156) ∧
 (List.length (Prod.fst x156) ≤ (4096 : Nat)))) ∧
 (∀ x163 : Ar,
 (UpA x13 x156 x160 x163) →
 (((!true) = true) →
 ∃ x164 : ArG,
 ∃ x165 : Ar,
 (True) ∧
 (False)) ∧
 (((!true) = false) →
 ∀ x166 : Int,
 (x166 = litArith BinOp.add IntKind.i64 x19 (1 : Int)) →
 (x3 = x3) ∧
 ((x13 = x13) ∧
 ((x2 = x2) ∧
 (((↑(List.length x2) : Int) = (↑(List.length x2) : Int)) ∧
 (((↑(List.length x2) : Int) = (↑(List.length x2) : Int)) ∧
 ((x14 = x14) ∧
 ((x17 x166 x156 x163) ∧
 (x18 x166 x156 x163 < x18 x19 x20 x21))))))))))))))) ∧
 ((litCmp BinOp.eql (Prod.fst x23) (3 : Int) = false) →
 ((litCmp BinOp.eql (Prod.fst x23) (4 : Int) = true) →
 (List.length (Prod.fst x20) ≤ (4096 : Nat)) ∧
 (True →
 ∀ x167 : Bo,
 (x167 = toB x20 (Prod.fst (Prod.snd (Prod.snd (Prod.snd x23))))) →
 ∀ x168 : Bo,
 (x168 = x167) →
 ((hasA x13 x21 = true) ∧
 (u64ok (Prod.fst (Prod.snd (Prod.snd (Prod.snd x23)))))) ∧
 (∀ x169 : List Int,
 ∀ x170 : Ar,
 ((x169 = outR (whB (bkA x13 x21)) (Prod.fst (Prod.snd (Prod.snd (Prod.snd x23))))) ∧
 (UpA x13 (toB (bkA x13 x21) (Prod.fst (Prod.snd (Prod.snd (Prod.snd x23))))) x21 x170)) →
 (List.length x169 ≤ (1000000 : Nat)) ∧
 (True →
 (((!same x169 (outR (whB x20) (Prod.fst (Prod.snd (Prod.snd (Prod.snd x23)))))) = true) →
 ∃ x171 : ArG,
 ∃ x172 : Ar,
 (True) ∧
 (False)) ∧
 (((!same x169 (outR (whB x20) (Prod.fst (Prod.snd (Prod.snd (Prod.snd x23)))))) = false) →
 ((hasA x13 x170 = true) ∧
 ((bkA x13 x170 = x168) ∧
 (List.length (Prod.fst x168) ≤ (4096 : Nat)))) ∧
 (∀ x173 : Ar,
 (UpA x13 x168 x170 x173) →
 (((!true) = true) →
 ∃ x174 : ArG,
 ∃ x175 : Ar,
 (True) ∧
 (False)) ∧
 (((!true) = false) →
 ((hasA x13 x173 = true) ∧
 ((bkA x13 x173 = x168) ∧
 (List.length (Prod.fst x168) ≤ (4096 : Nat)))) ∧
 (∀ x176 : Ar,
 (UpA x13 x168 x173 x176) →
 (((!true) = true) →
 ∃ x177 : ArG,
 ∃ x178 : Ar,
 (True) ∧
 (False)) ∧
 (((!true) = false) →
 ∀ x179 : Int,
 (x179 = litArith BinOp.add IntKind.i64 x19 (1 : Int)) →
 (x3 = x3) ∧
 ((x13 = x13) ∧
 ((x2 = x2) ∧
 (((↑(List.length x2) : Int) = (↑(List.length x2) : Int)) ∧
 (((↑(List.length x2) : Int) = (↑(List.length x2) : Int)) ∧
 ((x14 = x14) ∧
 ((x17 x179 x168 x176) ∧
 (x18 x179 x168 x176 < x18 x19 x20 x21)))))))))))))))) ∧
 ((litCmp BinOp.eql (Prod.fst x23) (4 : Int) = false) →
 ((litCmp BinOp.eql (Prod.fst x23) (5 : Int) = true) →
 ((List.length (Prod.fst x20) ≤ (4096 : Nat)) ∧
 (((0 : Int) ≤ Prod.fst (Prod.snd x20)) ∧
 ((Prod.fst (Prod.snd x20) < (9223372036854775807 : Int)) ∧
 ((u64ok (Prod.fst (Prod.snd (Prod.snd (Prod.snd x23))))) ∧
 (∀ x180 : Int,
 ((0 : Int) ≤ x180) →
 (x180 < (↑(List.length (Prod.fst x20)) : Int)) →
 TmU (ix (Prod.fst x20) x180)))))) ∧
 (True →
 ∀ x181 : Bo,
 (x181 = Prod.fst (sentB x20 (Prod.fst (Prod.snd x23)) (Prod.fst (Prod.snd (Prod.snd (Prod.snd x23)))))) →
 ∀ x182 : Bo,
 (x182 = x181) →
 ((hasA x13 x21 = true) ∧
 ((u64ok (Prod.fst (Prod.snd (Prod.snd (Prod.snd x23))))) ∧
 (okTurn (bkA x13 x21)))) ∧
 (∀ x183 : Int,
 ∀ x184 : Ar,
 ((x183 = Prod.snd (sentB (bkA x13 x21) (Prod.fst (Prod.snd x23)) (Prod.fst (Prod.snd (Prod.snd (Prod.snd x23)))))) ∧
 (UpA x13 (Prod.fst (sentB (bkA x13 x21) (Prod.fst (Prod.snd x23)) (Prod.fst (Prod.snd (Prod.snd (Prod.snd x23)))))) x21 x184)) →
 ((litCmp BinOp.neq x183 (Prod.snd (sentB x20 (Prod.fst (Prod.snd x23)) (Prod.fst (Prod.snd (Prod.snd (Prod.snd x23)))))) = true) →
 ∃ x185 : ArG,
 ∃ x186 : Ar,
 (True) ∧
 (False)) ∧
 ((litCmp BinOp.neq x183 (Prod.snd (sentB x20 (Prod.fst (Prod.snd x23)) (Prod.fst (Prod.snd (Prod.snd (Prod.snd x23)))))) = false) →
 ((hasA x13 x184 = true) ∧
 ((bkA x13 x184 = x182) ∧
 (List.length (Prod.fst x182) ≤ (4096 : Nat)))) ∧
 (∀ x187 : Ar,
 (UpA x13 x182 x184 x187) →
 (((!true) = true) →
 ∃ x188 : ArG,
 ∃ x189 : Ar,
 (True) ∧
 (False)) ∧
 (((!true) = false) →
 ((hasA x13 x187 = true) ∧
 ((bkA x13 x187 = x182) ∧
 (List.length (Prod.fst x182) ≤ (4096 : Nat)))) ∧
 (∀ x190 : Ar,
 (UpA x13 x182 x187 x190) →
 (((!true) = true) →
 ∃ x191 : ArG,
 ∃ x192 : Ar,
 (True) ∧
 (False)) ∧
 (((!true) = false) →
 ∀ x193 : Int,
 (x193 = litArith BinOp.add IntKind.i64 x19 (1 : Int)) →
 (x3 = x3) ∧
 ((x13 = x13) ∧
 ((x2 = x2) ∧
 (((↑(List.length x2) : Int) = (↑(List.length x2) : Int)) ∧
 (((↑(List.length x2) : Int) = (↑(List.length x2) : Int)) ∧
 ((x14 = x14) ∧
 ((x17 x193 x182 x190) ∧
 (x18 x193 x182 x190 < x18 x19 x20 x21))))))))))))))) ∧
 ((litCmp BinOp.eql (Prod.fst x23) (5 : Int) = false) →
 ((hasA x13 x21 = true) ∧
 ((bkA x13 x21 = x20) ∧
 (List.length (Prod.fst x20) ≤ (4096 : Nat)))) ∧
 (∀ x194 : Ar,
 (UpA x13 x20 x21 x194) →
 (((!true) = true) →
 ∃ x195 : ArG,
 ∃ x196 : Ar,
 (True) ∧
 (False)) ∧
 (((!true) = false) →
 ((hasA x13 x194 = true) ∧
 ((bkA x13 x194 = x20) ∧
 (List.length (Prod.fst x20) ≤ (4096 : Nat)))) ∧
 (∀ x197 : Ar,
 (UpA x13 x20 x194 x197) →
 (((!true) = true) →
 ∃ x198 : ArG,
 ∃ x199 : Ar,
 (True) ∧
 (False)) ∧
 (((!true) = false) →
 ∀ x200 : Int,
 (x200 = litArith BinOp.add IntKind.i64 x19 (1 : Int)) →
 (x3 = x3) ∧
 ((x13 = x13) ∧
 ((x2 = x2) ∧
 (((↑(List.length x2) : Int) = (↑(List.length x2) : Int)) ∧
 (((↑(List.length x2) : Int) = (↑(List.length x2) : Int)) ∧
 ((x14 = x14) ∧
 ((x17 x200 x20 x197) ∧
 (x18 x200 x20 x197 < x18 x19 x20 x21)))))))))))))))))))) ∧
 ((litCmp BinOp.lss x19 (↑(List.length x2) : Int) = false) →
 ∃ x201 : ArG,
 ∃ x202 : Ar,
 (True) ∧
 ((x14 = x201) ∧
 ((x21 = x202) ∧
           (True)))))))))) := by
  rintro room now ops ask g0 l0 ⟨⟨⟨⟨⟨⟨_, _⟩, hn⟩, ho⟩, _⟩, _⟩, _⟩
  have hn := u64_of hn
  refine ⟨trivial, fun g1 l1 _ => ⟨fun q => absurd q (by decide), fun _ => ⟨fun _ => ⟨g1, l1, trivial, rfl, rfl, trivial⟩, fun hlen => ?_⟩⟩⟩
  rw [gtrF] at hlen
  intro R hR
  obtain ⟨r0, r1⟩ : 0 ≤ R ∧ R ≤ 31 := by rw [hR]; exact andI_le 31 (by decide)
  clear hR
  have hc : cut256 R = R.toNat := by unfold cut256; rw [if_neg (by omega), if_neg (by omega)]
  refine ⟨hn, ?_⟩
  rintro e g2 l2 ⟨_, _, u⟩
  refine ⟨⟨r0, by omega⟩, fun _ => ?_⟩
  rintro _ rfl
  refine ⟨fun k x l => 0 ≤ k ∧ k ≤ ops.length ∧ hasA e l = true ∧ bkA e l = x ∧ BkU x k, fun k _ _ => ((ops.length : Int) - k).toNat, ⟨Int.le_refl _, Int.natCast_nonneg _, u.has, by rw [u.is]; unfold newB; rw [hc], BkU.new _ _ (by omega)⟩, ?_⟩
  rintro k x l ⟨k0, k1, he, rfl, hu⟩
  refine ⟨fun hk => ?_, fun _ => ⟨g2, l, trivial, rfl, rfl, trivial⟩⟩
  rw [lssT] at hk
  refine ⟨⟨k0, hk⟩, ?_⟩
  rintro _ rfl o hoo
  have hf := ho.out.2 _ (ix_mem k0 hk)
  rw [← hoo] at hf
  obtain ⟨_, _, hf1, hf2, hf3, _⟩ := hf
  have hh := u64_wf hf1
  have hp := u64_wf hf3
  have ha1 : u64ok (litArith .add .u64 o.2.2.2.1 (bkA e l).2.2) := wrapU_ok2 _
  have ha2 : u64ok o.2.2.2.1 := u64_wf hf2
  have hadd : litArith .add .i64 k 1 = k + 1 := addI_ (by omega) (by omega)
  have ht := hu.turn
  have hok : okTurn (bkA e l) := ⟨ht.1, by omega⟩
  have fin : ∀ {x' : Bo} {l3 : Ar}, UpA e x' l l3 → BkU x' (k + 1) → ∀ z : Int, z = litArith .add .i64 k 1 → (0 ≤ z ∧ z ≤ ops.length ∧ hasA e l3 = true ∧ bkA e l3 = x' ∧ BkU x' z) ∧ ((ops.length : Int) - z).toNat < ((ops.length : Int) - k).toNat := by
    rintro x' l3 h3 hu' z rfl
    rw [hadd]
    exact ⟨⟨by omega, by omega, h3.has, h3.is, hu'⟩, meas hk⟩
  refine ⟨fun _ => ?ga, fun _ => ?gb⟩
  case' ga =>
    intro at_ hat
    have ha : u64ok at_ := by rw [hat]; exact ha1
    clear hat
  case' gb =>
    generalize o.2.2.2.1 = at_ at ha2 ⊢
    have ha : u64ok at_ := ha2
  all_goals
    refine ⟨fun _ => ⟨hu.len, ?_⟩, fun _ => ⟨fun _ => ⟨hu.len, fun _ => ?_⟩, fun _ => ⟨fun _ => ⟨⟨hu.len, ht.1, by omega⟩, fun _ => ?_⟩, fun _ => ⟨fun _ => ⟨hu.len, fun _ => ?_⟩, fun _ => ⟨fun _ => ⟨hu.len, fun _ => ?_⟩, fun _ => ⟨fun _ => ⟨⟨hu.len, ht.1, by omega, ha, fun i i0 i1 => hu.at_ i0 i1⟩, fun _ => ?_⟩, fun _ => ?_⟩⟩⟩⟩⟩⟩
    · rintro j is hj _ rfl _ rfl
      refine ⟨he, ?_⟩
      rintro j2 is2 l1 ⟨hj2, u1⟩
      obtain ⟨rfl, rfl⟩ := hj.uniq hj2
      have hu' := (hu.make j is).mono (show k ≤ k + 1 by omega)
      refine ⟨fun q => (by rw [neqT] at q; exact absurd rfl q), fun _ => ⟨fun q => (by simp at q), fun _ => ?_⟩⟩
      exact playsTail u1 hu'.len fun _ l3 h3 z hz => ⟨rfl, rfl, rfl, rfl, rfl, rfl, fin h3 hu' z hz⟩
    · rintro _ rfl _ rfl
      refine ⟨he, fun l1 u1 => ⟨fun q => (by simp at q), fun _ => ?_⟩⟩
      have hu' := (hu.free o.2.1).mono (show k ≤ k + 1 by omega)
      exact playsTail u1 hu'.len fun _ l3 h3 z hz => ⟨rfl, rfl, rfl, rfl, rfl, rfl, fin h3 hu' z hz⟩
    · rintro _ rfl _ rfl
      refine ⟨⟨he, hh, ha, hp, hok⟩, fun l1 u1 => ⟨fun q => (by simp at q), fun _ => ?_⟩⟩
      have hu' := hu.arm o.2.1 hh ha hp
      exact playsTail u1 hu'.len fun _ l3 h3 z hz => ⟨rfl, rfl, rfl, rfl, rfl, rfl, fin h3 hu' z hz⟩
    · rintro _ rfl _ rfl
      refine ⟨he, fun l1 u1 => ⟨fun q => (by simp at q), fun _ => ?_⟩⟩
      have hu' := (hu.stop o.2.1).mono (show k ≤ k + 1 by omega)
      exact playsTail u1 hu'.len fun _ l3 h3 z hz => ⟨rfl, rfl, rfl, rfl, rfl, rfl, fin h3 hu' z hz⟩
    · rintro _ rfl _ rfl
      refine ⟨⟨he, ha⟩, ?_⟩
      rintro w l1 ⟨rfl, u1⟩
      have hl : (outR (whB (bkA e l)) at_).length ≤ 1000000 := by
        have h1 := dueN_length (whB (bkA e l)).1 (nowR (whB (bkA e l)) at_) (whB (bkA e l)).1.length
        have h2 : (whB (bkA e l)).1.length = (bkA e l).1.length := by simp [whB]
        have h3 := hu.len
        rw [outR_length]; omega
      refine ⟨hl, fun _ => ⟨fun q => (by rw [same_self] at q; cases q), fun _ => ?_⟩⟩
      have hu' := (hu.to at_).mono (show k ≤ k + 1 by omega)
      exact playsTail u1 hu'.len fun _ l3 h3 z hz => ⟨rfl, rfl, rfl, rfl, rfl, rfl, fin h3 hu' z hz⟩
    · rintro _ rfl _ rfl
      refine ⟨⟨he, ha, hok⟩, ?_⟩
      rintro n l1 ⟨rfl, u1⟩
      have hu' := hu.sent o.2.1 ha
      refine ⟨fun q => (by rw [neqT] at q; exact absurd rfl q), fun _ => ?_⟩
      exact playsTail u1 hu'.len fun _ l3 h3 z hz => ⟨rfl, rfl, rfl, rfl, rfl, rfl, fin h3 hu' z hz⟩
    · exact playsTail (UpA.refl he) hu.len fun _ l3 h3 z hz => ⟨rfl, rfl, rfl, rfl, rfl, rfl, fin h3 (hu.mono (by omega)) z hz⟩
set_option maxRecDepth 10000 in
theorem alarmPlays_ok : conAlarmPlays.ok KN Tryd.prog 3 := by
  refine Con.of_vc ([(0, ⟨[], [(44, .d (.i .i64))], [(0, .pk tpBo)], [], [1]⟩)]) ([]) ([]) TT_ok follows Tryd.func3 ?_ G109_ok (@toVC _ _ alarmPlays_vc ?_)
  · kernel_rfl
  · kernel_rfl
noncomputable def G110b : List (FuncId × Con) := (3, conAlarmPlays) :: G109
theorem G110b_ok : GOK KN Tryd.prog G110b := GOK.cons (Callable.of Tryd.func3 (by kernel_rfl) (by kernel_rfl)) alarmPlays_ok G109_ok
end Go.Proofs.YtplefbcgpbdkfaaDoor
/- The card of AlarmPlays: it answers yes to every input; the table of bits that is read is the program's own. -/
namespace Go.Proofs.YtplefbcgpbdkfaaDoor.alarmPlaysDone
open Go Go.ChangeShapes Go.WideShapes Go.ChangeAt Go.RowKit Go.Joins Go.Fx

theorem wantsNone {P : Program} {ps : Array TypeId} (h : (ps.toList.all fun t => !P.wantsStandIn t) = true) {j : Nat} {t : TypeId} (ht : ps[j]? = some t) : P.wantsStandIn t = false := by
  have := List.all_eq_true.1 h t (List.mem_of_getElem? (by simpa using ht))
  simpa using this
theorem own : ownKnob Tryd.prog.godebug = none := by kernel_rfl
theorem laidOut : laidOutB Tryd.prog = true := by kernel_rfl
theorem gTab : Tryd.prog.globalNamed "math/bits.deBruijn64tab" = some 0 := by kernel_rfl
theorem tTab : (Tryd.prog.globals[0]?).map (·.type) = some 144 := by kernel_rfl
theorem laidIs {W : World} (h : laidMetH Tryd.prog Rows.alarmPlaysRow.laid W) : Lib.TabIs Tryd.prog W "math/bits.deBruijn64tab" .u8 (Lib.deBruijn64tab.map fun n => ((n : Nat) : Int)) := by
  rw [MakeChecks.laidMetH_plain _ _ _ (by kernel_rfl)] at h
  exact Lib.tabIs_of_head (rest := []) (n := 64) (e := 5) gTab tTab (by kernel_rfl) (by kernel_rfl) (by kernel_rfl) (by kernel_rfl) h
theorem glAt {W : World} (h : laidMetH Tryd.prog Rows.alarmPlaysRow.laid W) : KN.at_ W := by
  intro p hp
  obtain ⟨j, hj, rfl⟩ := List.mem_map.1 (show p ∈ glB from hp)
  have hj := List.mem_range.1 hj
  have hc : W.cell? ⟨0, j, none⟩ = some (.int .u8 ((Lib.deBruijn64tab.getD j 0 : Nat) : Int)) := by
    have := (laidIs h).cell gTab j (by rw [List.length_map]; exact hj)
    rw [this]
    congr 2
    simp only [List.getD_eq_getElem?_getD, List.getElem?_map]
    cases Lib.deBruijn64tab[j]? <;> rfl
  refine ⟨?_, hc⟩
  unfold World.cell? at hc
  simp only [Option.isSome_none, Bool.false_eq_true, if_false] at hc
  by_cases c : 0 < W.heap.size
  · exact c
  · rw [Array.getElem?_eq_none (by omega)] at hc; cases hc
theorem door_met (os : Os) (args : Array Value) : laidMetH Tryd.prog Rows.alarmPlaysRow.laid ((World.doorLaid Tryd.prog 400 os).forCall (fun _ _ => 0) ⟨#[], args, []⟩).memory :=
  laidMetH_of_parts3 (fuel := 8) (laidMet_of_run' 8 (by kernel_rfl) (by kernel_rfl)) (by kernel_rfl) (by kernel_rfl)
set_option maxRecDepth 100000 in
theorem lifted (os : Os) (started : os.Started) (H : Type) (enc : TypeId × Value → H) :
    ReturnsInHanded {} Tryd.checked os 3 .any (fun w args => (Rows.alarmPlaysSpec.pre enc Tryd.prog Tryd.f3 Rows.alarmPlaysRow.domain false w args ∧ laidMetH Tryd.prog Rows.alarmPlaysRow.laid w) ∧ sizedMet enc Tryd.prog Tryd.f3 (OpenSpec.ofChange Rows.alarmPlaysSpec) false w args)
      (Rows.alarmPlaysSpec.post enc Tryd.prog Tryd.f3 false true false false) := by
  refine returnsInHanded_of_change_and (C := Tryd.checked) (X := fun w _ => laidMetH Tryd.prog Rows.alarmPlaysRow.laid w) (fun _ _ _ hh h => h.of_heap hh) own started (by kernel_rfl) Tryd.func3
    (ChangeSpec.witness_shaped (enc := enc) (C := Tryd.checked) (os := os) (X := fun w _ => laidMetH Tryd.prog Rows.alarmPlaysRow.laid w) false (World.doorLaid Tryd.prog 400 os) #[.int .i64 0, .int .u64 0, .slice none 0 0, .int .i64 0] 8 rfl (World.shaped_of_RefB (by kernel_rfl) (by kernel_rfl)) (by kernel_rfl) (by kernel_rfl) (by kernel_rfl) (door_met os _)) ?_
  intro W base args ds gs before hval hW hcnd _ hL _
  have hW' := hW
  obtain ⟨p, q, hA, hV, rfl, hfz, hnd⟩ := hW
  obtain ⟨rfl, rfl⟩ := trodVars_none hV
  obtain ⟨us, h1, h2, h3⟩ := rowIn (d := 8) ([.i .i64, .i .u64, .sl tpOp8, .i .i64]) hA (by kernel_rfl) (fun j t v ht hv => hval j t v (by simpa using ht) (by simpa using hv))
  have hc := lawTA_walk (show (lawTA KN ([.i .i64, .i .u64, .sl tpOp8, .i .i64]) [1, 3]).ok KN Tryd.prog 3 from alarmPlays_ok) us h1 h2 W (glAt hL) _ h3
  rw [Array.toArray_toList] at hc
  have hA' := hA
  rw [Tryd.params3] at hA'
  obtain ⟨v0, vs0, d0, ds0, p0, q0, e0, rfl, rfl, _, r0⟩ := trodAll_cons hA'
  obtain ⟨v1, vs1, d1, ds1, p1, q1, e1, rfl, rfl, _, r1⟩ := trodAll_cons r0
  obtain ⟨v2, vs2, d2, ds2, p2, q2, e2, rfl, rfl, _, r2⟩ := trodAll_cons r1
  obtain ⟨v3, vs3, d3, ds3, p3, q3, e3, rfl, rfl, _, r3⟩ := trodAll_cons r2
  obtain ⟨_, rfl, rfl⟩ := trodAll_nil r3
  refine hc.mono fun e W' ⟨he, bel⟩ => ?_
  subst he
  exact ⟨_, rfl, _, _, _, [], _, [], hW', trodAll_mk1 (shut_bool Tryd.underlying4 _), rowOut laidOut bel (by kernel_rfl) hA, rfl, bel.frame _, fun h => by cases h⟩

theorem over : Rows.alarmPlaysRow.holds Tryd.pinned (OpenSpec.ofChange Rows.alarmPlaysSpec) :=
  OpenClaim.holds_of_wide 3 Tryd.f3 rfl rfl rfl rfl rfl rfl rfl ⟨rfl, rfl, rfl, rfl, rfl⟩ rfl rfl rfl rfl rfl (by kernel_rfl) Tryd.func3 (by kernel_rfl)
    (of_decide_eq_true (by kernel_rfl)) (by unfold Func.isWrapper; first | (rw [if_pos (by decide +kernel)]; kernel_rfl) | (rw [if_neg (by decide +kernel)]; exact ⟨rfl, rfl⟩))
    (fun os started H enc _ => lifted os started H enc)

/-- The statement. -/
theorem proved : Rows.AlarmPlaysCardSaid :=
  Claim7.holds_tied_plain_at .later [] [.data] true (true, "3a02e29e3b0c33c5a0fe985bdd6831eedcb6f3b33517c4291dff9e05887cec17") false
    over (fun _ h => by cases h) (by kernel_rfl) (fun _ h => by cases h) alarmPlays_row_tie rfl ⟨rfl, rfl⟩ (by kernel_rfl) rfl
    (fun f fn hf hfn => by
      obtain rfl : f = 3 := Option.some.inj ((show Tryd.prog.funcNamed "nightjar/nightjarlaw08.AlarmPlays" = some 3 by kernel_rfl).symm.trans hf) |>.symm
      obtain rfl : fn = Tryd.f3 := (Option.some.inj (Tryd.func3.symm.trans hfn)).symm
      exact ⟨by kernel_rfl, fun j t ht => wantsNone (by kernel_rfl) ht⟩)
    (by kernel_rfl)
#print axioms proved
end Go.Proofs.YtplefbcgpbdkfaaDoor.alarmPlaysDone
