/- Package nightjarlaw08: AlarmBeats holds. -/
import Derived.Test.YtplefbcgpbdkfaaDoorZ5
import Derived.Test.YtplefbcgpbdkfaaDoorRows
import Derived.Test.YtplefbcgpbdkfaaDoorTie
import Derived.Test.YtplefbcgpbdkfaaDoorCards
import Derived.Test.YtplefbcgpbdkfaaDoorFt
import Derived.LaidMore
import Derived.Lib.LaidTab
import Derived.MakeChecks
import Derived.SevenTiedAt
set_option linter.all false
namespace Go.Proofs.YtplefbcgpbdkfaaDoor
open Go Go.Fx
-- ENV: KN

set_option maxRecDepth 10000 in
theorem alarmBeats_vc :
  ∀ x0 : Int,
 ∀ x1 : Int,
 ∀ x2 : Int,
 ∀ x3 : List Int,
 ∀ x4 : ArG,
 ∀ x5 : Ar,
 (((((((True) ∧
 (Fits (Tp.i IntKind.u64) x0)) ∧
 (Fits (Tp.i IntKind.u64) x1)) ∧
 (Fits (Tp.i IntKind.u64) x2)) ∧
 (Fits (Tp.sl (Tp.i IntKind.u64)) x3)) ∧
 (IsZ (Tp.sl (Tp.p Tp.pt (Tp.sl (Tp.p Tp.bo (Tp.p (Tp.i IntKind.i64) (Tp.p (Tp.i IntKind.u64) (Tp.p (Tp.i IntKind.u64) (Tp.i IntKind.u64)))))))) x4)) ∧
 (IsZ (Tp.sl (Tp.p Tp.pt (Tp.p (Tp.sl (Tp.p Tp.bo (Tp.p (Tp.i IntKind.i64) (Tp.p (Tp.i IntKind.u64) (Tp.p (Tp.i IntKind.u64) (Tp.p (Tp.i IntKind.u64) (Tp.i IntKind.i64))))))) (Tp.p (Tp.i IntKind.i64) (Tp.i IntKind.u64))))) x5)) →
 (True) ∧
 (∀ x6 : ArG,
 ∀ x7 : Ar,
 True →
 (((!true) = true) →
 ∃ x8 : ArG,
 ∃ x9 : Ar,
 (True) ∧
 (False)) ∧
 (((!true) = false) →
 ((litCmp BinOp.gtr (↑(List.length x3) : Int) (40 : Int) = true) →
 ∃ x10 : ArG,
 ∃ x11 : Ar,
 (True) ∧
 ((x6 = x10) ∧
 ((x7 = x11) ∧
 (True)))) ∧
 ((litCmp BinOp.gtr (↑(List.length x3) : Int) (40 : Int) = false) →
 ∀ x12 : Int,
 (x12 = litArith BinOp.and IntKind.u64 x0 (1099511627775 : Int)) →
 ∀ x13 : Int,
 (x13 = litArith BinOp.and IntKind.u64 x1 (1073741823 : Int)) →
 ∀ x14 : Int,
 (x14 = litArith BinOp.and IntKind.u64 x2 (1073741823 : Int)) →
 ∀ x15 : Int,
 (x15 = litArith BinOp.add IntKind.u64 (1 : Int) x14) →
 (u64ok x12) ∧
 (∀ x16 : (Int × Int),
 ∀ x17 : ArG,
 ∀ x18 : Ar,
 ((((0 : Int) ≤ Prod.fst x16) ∧
 ((0 : Int) ≤ Prod.snd x16)) ∧
 ((freshA x7 x16) ∧
 (UpA x16 (newB (1 : Nat) x12) x7 x18))) →
 (hasA x16 x18 = true) ∧
 (∀ x19 : Int,
 ∀ x20 : Bool,
 ∀ x21 : Ar,
 ((NextP (fun (i : Int) => !Prod.fst (ix (Prod.fst (bkA x16 x18)) i)) (0 : Int) (↑(List.length (Prod.fst (bkA x16 x18))) : Int) x19 x20) ∧
 (UpA x16 (makeB (bkA x16 x18) x19 x20) x18 x21)) →
 ∀ x22 : Int,
 (x22 = litArith BinOp.add IntKind.u64 x12 x13) →
 ((hasA x16 x21 = true) ∧
 ((u64ok (5 : Int)) ∧
 ((u64ok x22) ∧
 ((u64ok x15) ∧
 (okTurn (bkA x16 x21)))))) ∧
 (∀ x23 : Ar,
 (UpA x16 (armB (bkA x16 x21) x19 (5 : Int) x22 x15) x21 x23) →
 ∃ x24 : Int → Int → Int → Ar → Prop,
 ∃ x25 : Int → Int → Int → Ar → Nat,
 (x24 (0 : Int) x12 (0 : Int) x23) ∧
 (∀ x26 : Int,
 ∀ x27 : Int,
 ∀ x28 : Int,
 ∀ x29 : Ar,
 (x24 x26 x27 x28 x29) →
 ((litCmp BinOp.lss x26 (↑(List.length x3) : Int) = true) →
 (((0 : Int) ≤ x26) ∧
 (x26 < (↑(List.length x3) : Int))) ∧
 (∀ x30 : Int,
 (x30 = ix x3 x26) →
 ∀ x31 : Int,
 (x31 = litArith BinOp.and IntKind.u64 x30 (8589934591 : Int)) →
 ∀ x32 : Int,
 (x32 = litArith BinOp.add IntKind.u64 x27 x31) →
 ((hasA x16 x29 = true) ∧
 (u64ok x32)) ∧
 (∀ x33 : List Int,
 ∀ x34 : Ar,
 ((x33 = outR (whB (bkA x16 x29)) x32) ∧
 (UpA x16 (toB (bkA x16 x29) x32) x29 x34)) →
 (hasA x16 x34 = true) ∧
 (∀ x35 : Ar,
 (UpA x16 (bkA x16 x34) x34 x35) →
 ∀ x36 : (Int × (Int × (Int × Int))),
 (x36 = lookB (bkA x16 x34) x19) →
 ∀ x37 : Int,
 (x37 = litArith BinOp.add IntKind.u64 x12 x13) →
 ((litCmp BinOp.geq x32 x37 = true) →
 ∀ x38 : Int,
 (x38 = litArith BinOp.sub IntKind.u64 x32 x12) →
 ∀ x39 : Int,
 (x39 = litArith BinOp.sub IntKind.u64 x38 x13) →
 (x15 ≠ (0 : Int)) ∧
 (∀ x40 : Int,
 (x40 = litArith BinOp.quo IntKind.u64 x39 x15) →
 ∀ x41 : Int,
 (x41 = litArith BinOp.add IntKind.u64 x40 (1 : Int)) →
 (((!litCmp BinOp.eql (↑(List.length x33) : Int) (1 : Int) == litCmp BinOp.gtr x41 x28) = true) →
 ∃ x42 : ArG,
 ∃ x43 : Ar,
 (True) ∧
 (False)) ∧
 (((!litCmp BinOp.eql (↑(List.length x33) : Int) (1 : Int) == litCmp BinOp.gtr x41 x28) = false) →
 (((!litCmp BinOp.eql (Prod.fst x36) (2 : Int) == litCmp BinOp.gtr x41 x28) = true) →
 ∃ x44 : ArG,
 ∃ x45 : Ar,
 (True) ∧
 (False)) ∧
 (((!litCmp BinOp.eql (Prod.fst x36) (2 : Int) == litCmp BinOp.gtr x41 x28) = false) →
 ((litCmp BinOp.gtr x41 x28 = true) →
 ((hasA x16 x35 = true) ∧
 ((u64ok x32) ∧
 (okTurn (bkA x16 x35)))) ∧
 (∀ x46 : Int,
 ∀ x47 : Ar,
 ((x46 = Prod.snd (sentB (bkA x16 x35) x19 x32)) ∧
 (UpA x16 (Prod.fst (sentB (bkA x16 x35) x19 x32)) x35 x47)) →
 ∀ x48 : Int,
 (x48 = litArith BinOp.add IntKind.u64 x28 x46) →
 (hasA x16 x47 = true) ∧
 (∀ x49 : Ar,
 (UpA x16 (bkA x16 x47) x47 x49) →
 ∀ x50 : (Int × (Int × (Int × Int))),
 (x50 = lookB (bkA x16 x47) x19) →
 ((litCmp BinOp.neq x48 x41 = true) →
 ∃ x51 : ArG,
 ∃ x52 : Ar,
 (True) ∧
 (False)) ∧
 ((litCmp BinOp.neq x48 x41 = false) →
 ((litCmp BinOp.neq (Prod.fst x50) (1 : Int) = true) →
 ∃ x53 : ArG,
 ∃ x54 : Ar,
 (True) ∧
 (False)) ∧
 ((litCmp BinOp.neq (Prod.fst x50) (1 : Int) = false) →
 ∀ x55 : Int,
 (x55 = litArith BinOp.add IntKind.u64 x12 x13) →
 ∀ x56 : Int,
 (x56 = litArith BinOp.mul IntKind.u64 x48 x15) →
 ∀ x57 : Int,
 (x57 = litArith BinOp.add IntKind.u64 x55 x56) →
 ((litCmp BinOp.neq (Prod.fst (Prod.snd (Prod.snd x50))) x57 = true) →
 ∃ x58 : ArG,
 ∃ x59 : Ar,
 (True) ∧
 (False)) ∧
 ((litCmp BinOp.neq (Prod.fst (Prod.snd (Prod.snd x50))) x57 = false) →
 ((litCmp BinOp.leq (Prod.fst (Prod.snd (Prod.snd x50))) x32 = true) →
 ((litCmp BinOp.gtr x41 (0 : Int) = true) →
 ∃ x60 : ArG,
 ∃ x61 : Ar,
 (True) ∧
 (False)) ∧
 ((litCmp BinOp.gtr x41 (0 : Int) = false) →
 ((litCmp BinOp.neq (Prod.fst (Prod.snd x50)) (5 : Int) = true) →
 ∃ x62 : ArG,
 ∃ x63 : Ar,
 (True) ∧
 (False)) ∧
 ((litCmp BinOp.neq (Prod.fst (Prod.snd x50)) (5 : Int) = false) →
 ∀ x64 : Int,
 (x64 = litArith BinOp.add IntKind.i64 x26 (1 : Int)) →
 (x12 = x12) ∧
 ((x13 = x13) ∧
 ((x15 = x15) ∧
 ((x16 = x16) ∧
 ((x19 = x19) ∧
 ((x3 = x3) ∧
 (((↑(List.length x3) : Int) = (↑(List.length x3) : Int)) ∧
 (((↑(List.length x3) : Int) = (↑(List.length x3) : Int)) ∧
 ((x17 = x17) ∧
 ((x24 x64 x32 x48 x49) ∧
 (x25 x64 x32 x48 x49 < x25 x26 x27 x28 x29))))))))))))) ∧
 ((litCmp BinOp.leq (Prod.fst (Prod.snd (Prod.snd x50))) x32 = false) →
 ((litCmp BinOp.neq (Prod.fst (Prod.snd x50)) (5 : Int) = true) →
 ∃ x65 : ArG,
 ∃ x66 : Ar,
 (True) ∧
 (False)) ∧
 ((litCmp BinOp.neq (Prod.fst (Prod.snd x50)) (5 : Int) = false) →
 ∀ x67 : Int,
 (x67 = litArith BinOp.add IntKind.i64 x26 (1 : Int)) →
 (x12 = x12) ∧
 ((x13 = x13) ∧
 ((x15 = x15) ∧
 ((x16 = x16) ∧
 ((x19 = x19) ∧
 ((x3 = x3) ∧
 (((↑(List.length x3) : Int) = (↑(List.length x3) : Int)) ∧
 (((↑(List.length x3) : Int) = (↑(List.length x3) : Int)) ∧
 ((x17 = x17) ∧
 ((x24 x67 x32 x48 x49) ∧
 (x25 x67 x32 x48 x49 < x25 x26 x27 x28 x29)))))))))))))))))) ∧
 ((litCmp BinOp.gtr x41 x28 = false) →
 (hasA x16 x35 = true) ∧
 (∀ x68 : Ar,
 (UpA x16 (bkA x16 x35) x35 x68) →
 ∀ x69 : (Int × (Int × (Int × Int))),
 (x69 = lookB (bkA x16 x35) x19) →
 ((litCmp BinOp.neq x28 x41 = true) →
 ∃ x70 : ArG,
 ∃ x71 : Ar,
 (True) ∧
 (False)) ∧
 ((litCmp BinOp.neq x28 x41 = false) →
 ((litCmp BinOp.neq (Prod.fst x69) (1 : Int) = true) →
 ∃ x72 : ArG,
 ∃ x73 : Ar,
 (True) ∧
 (False)) ∧
 ((litCmp BinOp.neq (Prod.fst x69) (1 : Int) = false) →
 ∀ x74 : Int,
 (x74 = litArith BinOp.add IntKind.u64 x12 x13) →
 ∀ x75 : Int,
 (x75 = litArith BinOp.mul IntKind.u64 x28 x15) →
 ∀ x76 : Int,
 (x76 = litArith BinOp.add IntKind.u64 x74 x75) →
 ((litCmp BinOp.neq (Prod.fst (Prod.snd (Prod.snd x69))) x76 = true) →
 ∃ x77 : ArG,
 ∃ x78 : Ar,
 (True) ∧
 (False)) ∧
 ((litCmp BinOp.neq (Prod.fst (Prod.snd (Prod.snd x69))) x76 = false) →
 ((litCmp BinOp.leq (Prod.fst (Prod.snd (Prod.snd x69))) x32 = true) →
 ((litCmp BinOp.gtr x41 (0 : Int) = true) →
 ∃ x79 : ArG,
 ∃ x80 : Ar,
 (True) ∧
 (False)) ∧
 ((litCmp BinOp.gtr x41 (0 : Int) = false) →
 ((litCmp BinOp.neq (Prod.fst (Prod.snd x69)) (5 : Int) = true) →
 ∃ x81 : ArG,
 ∃ x82 : Ar,
 (True) ∧
 (False)) ∧
 ((litCmp BinOp.neq (Prod.fst (Prod.snd x69)) (5 : Int) = false) →
 ∀ x83 : Int,
 (x83 = litArith BinOp.add IntKind.i64 x26 (1 : Int)) →
 (x12 = x12) ∧
 ((x13 = x13) ∧
 ((x15 = x15) ∧
 ((x16 = x16) ∧
 ((x19 = x19) ∧
 ((x3 = x3) ∧
 (((↑(List.length x3) : Int) = (↑(List.length x3) : Int)) ∧
 (((↑(List.length x3) : Int) = (↑(List.length x3) : Int)) ∧
 ((x17 = x17) ∧
 ((x24 x83 x32 x28 x68) ∧
 (x25 x83 x32 x28 x68 < x25 x26 x27 x28 x29))))))))))))) ∧
 ((litCmp BinOp.leq (Prod.fst (Prod.snd (Prod.snd x69))) x32 = false) →
 ((litCmp BinOp.neq (Prod.fst (Prod.snd x69)) (5 : Int) = true) →
 ∃ x84 : ArG,
 ∃ x85 : Ar,
 (True) ∧
 (False)) ∧
 ((litCmp BinOp.neq (Prod.fst (Prod.snd x69)) (5 : Int) = false) →
 ∀ x86 : Int,
 (x86 = litArith BinOp.add IntKind.i64 x26 (1 : Int)) →
 (x12 = x12) ∧
 ((x13 = x13) ∧
 ((x15 = x15) ∧
 ((x16 = x16) ∧
 ((x19 = x19) ∧
 ((x3 = x3) ∧
 (((↑(List.length x3) : Int) = (↑(List.length x3) : Int)) ∧
 (((↑(List.length x3) : Int) = (↑(List.length x3) : Int)) ∧
 ((x17 = x17) ∧
 ((x24 x86 x32 x28 x68) ∧
 (x25 x86 x32 x28 x68 < x25 x26 x27 x28 x29))))))))))))))))))))) ∧
 ((litCmp BinOp.geq x32 x37 = false) →
 (((!litCmp BinOp.eql (↑(List.length x33) : Int) (1 : Int) == litCmp BinOp.gtr (0 : Int) x28) = true) →
 ∃ x87 : ArG,
 ∃ x88 : Ar,
 (True) ∧
 (False)) ∧
 (((!litCmp BinOp.eql (↑(List.length x33) : Int) (1 : Int) == litCmp BinOp.gtr (0 : Int) x28) = false) →
 (((!litCmp BinOp.eql (Prod.fst x36) (2 : Int) == litCmp BinOp.gtr (0 : Int) x28) = true) →
 ∃ x89 : ArG,
 ∃ x90 : Ar,
 (True) ∧
 (False)) ∧
 (((!litCmp BinOp.eql (Prod.fst x36) (2 : Int) == litCmp BinOp.gtr (0 : Int) x28) = false) →
 ((litCmp BinOp.gtr (0 : Int) x28 = true) →
 ((hasA x16 x35 = true) ∧
 ((u64ok x32) ∧
 (okTurn (bkA x16 x35)))) ∧
 (∀ x91 : Int,
 ∀ x92 : Ar,
 ((x91 = Prod.snd (sentB (bkA x16 x35) x19 x32)) ∧
 (UpA x16 (Prod.fst (sentB (bkA x16 x35) x19 x32)) x35 x92)) →
 ∀ x93 : Int,
 (x93 = litArith BinOp.add IntKind.u64 x28 x91) →
 (hasA x16 x92 = true) ∧
 (∀ x94 : Ar,
 (UpA x16 (bkA x16 x92) x92 x94) →
 ∀ x95 : (Int × (Int × (Int × Int))),
 (x95 = lookB (bkA x16 x92) x19) →
 ((litCmp BinOp.neq x93 (0 : Int) = true) →
 ∃ x96 : ArG,
 ∃ x97 : Ar,
 (True) ∧
 (False)) ∧
 ((litCmp BinOp.neq x93 (0 : Int) = false) →
 ((litCmp BinOp.neq (Prod.fst x95) (1 : Int) = true) →
 ∃ x98 : ArG,
 ∃ x99 : Ar,
 (True) ∧
 (False)) ∧
 ((litCmp BinOp.neq (Prod.fst x95) (1 : Int) = false) →
 ∀ x100 : Int,
 (x100 = litArith BinOp.add IntKind.u64 x12 x13) →
 ∀ x101 : Int,
 (x101 = litArith BinOp.mul IntKind.u64 x93 x15) →
 ∀ x102 : Int,
 (x102 = litArith BinOp.add IntKind.u64 x100 x101) →
 ((litCmp BinOp.neq (Prod.fst (Prod.snd (Prod.snd x95))) x102 = true) →
 ∃ x103 : ArG,
 ∃ x104 : Ar,
 (True) ∧
 (False)) ∧
 ((litCmp BinOp.neq (Prod.fst (Prod.snd (Prod.snd x95))) x102 = false) →
 ((litCmp BinOp.leq (Prod.fst (Prod.snd (Prod.snd x95))) x32 = true) →
 ((litCmp BinOp.neq (Prod.fst (Prod.snd x95)) (5 : Int) = true) →
 ∃ x105 : ArG,
 ∃ x106 : Ar,
 (True) ∧
 (False)) ∧
 ((litCmp BinOp.neq (Prod.fst (Prod.snd x95)) (5 : Int) = false) →
 ∀ x107 : Int,
 (x107 = litArith BinOp.add IntKind.i64 x26 (1 : Int)) →
 (x12 = x12) ∧
 ((x13 = x13) ∧
 ((x15 = x15) ∧
 ((x16 = x16) ∧
 ((x19 = x19) ∧
 ((x3 = x3) ∧
 (((↑(List.length x3) : Int) = (↑(List.length x3) : Int)) ∧
 (((↑(List.length x3) : Int) = (↑(List.length x3) : Int)) ∧
 ((x17 = x17) ∧
 ((x24 x107 x32 x93 x94) ∧
 (x25 x107 x32 x93 x94 < x25 x26 x27 x28 x29)))))))))))) ∧
 ((litCmp BinOp.leq (Prod.fst (Prod.snd (Prod.snd x95))) x32 = false) →
 ((litCmp BinOp.neq (Prod.fst (Prod.snd x95)) (5 : Int) = true) →
 ∃ x108 : ArG,
 ∃ x109 : Ar,
 (True) ∧
 (False)) ∧
 ((litCmp BinOp.neq (Prod.fst (Prod.snd x95)) (5 : Int) = false) →
 ∀ x110 : Int,
 (x110 = litArith BinOp.add IntKind.i64 x26 (1 : Int)) →
 (x12 = x12) ∧
 ((x13 = x13) ∧
 ((x15 = x15) ∧
 ((x16 = x16) ∧
 ((x19 = x19) ∧
 ((x3 = x3) ∧
 (((↑(List.length x3) : Int) = (↑(List.length x3) : Int)) ∧
 (((↑(List.length x3) : Int) = (↑(List.length x3) : Int)) ∧
 ((x17 = x17) ∧
 ((x24 x110 x32 x93 x94) ∧
 (x25 x110 x32 x93 x94 < x25 x26 x27 x28 x29)))))))))))))))))) ∧
 ((litCmp BinOp.gtr (0 : Int) x28 = false) →
 (hasA x16 x35 = true) ∧
 (∀ x111 : Ar,
 (UpA x16 (bkA x16 x35) x35 x111) →
 ∀ x112 : (Int × (Int × (Int × Int))),
 (x112 = lookB (bkA x16 x35) x19) →
 ((litCmp BinOp.neq x28 (0 : Int) = true) →
 ∃ x113 : ArG,
 ∃ x114 : Ar,
 (True) ∧
 (False)) ∧
 ((litCmp BinOp.neq x28 (0 : Int) = false) →
 ((litCmp BinOp.neq (Prod.fst x112) (1 : Int) = true) →
 ∃ x115 : ArG,
 ∃ x116 : Ar,
 (True) ∧
 (False)) ∧
 ((litCmp BinOp.neq (Prod.fst x112) (1 : Int) = false) →
 ∀ x117 : Int,
 (x117 = litArith BinOp.add IntKind.u64 x12 x13) →
 ∀ x118 : Int,
 (x118 = litArith BinOp.mul IntKind.u64 x28 x15) →
 ∀ x119 : Int,
 (x119 = litArith BinOp.add IntKind.u64 x117 x118) →
 ((litCmp BinOp.neq (Prod.fst (Prod.snd (Prod.snd x112))) x119 = true) →
 ∃ x120 : ArG,
 ∃ x121 : Ar,
 (True) ∧
 (False)) ∧
 ((litCmp BinOp.neq (Prod.fst (Prod.snd (Prod.snd x112))) x119 = false) →
 ((litCmp BinOp.leq (Prod.fst (Prod.snd (Prod.snd x112))) x32 = true) →
 ((litCmp BinOp.neq (Prod.fst (Prod.snd x112)) (5 : Int) = true) →
 ∃ x122 : ArG,
 ∃ x123 : Ar,
 (True) ∧
 (False)) ∧
 ((litCmp BinOp.neq (Prod.fst (Prod.snd x112)) (5 : Int) = false) →
 ∀ x124 : Int,
 (x124 = litArith BinOp.add IntKind.i64 x26 (1 : Int)) →
 (x12 = x12) ∧
 ((x13 = x13) ∧
 ((x15 = x15) ∧
 ((x16 = x16) ∧
 ((x19 = x19) ∧
 ((x3 = x3) ∧
 (((↑(List.length x3) : Int) = (↑(List.length x3) : Int)) ∧
 (((↑(List.length x3) : Int) = (↑(List.length x3) : Int)) ∧
 ((x17 = x17) ∧
 ((x24 x124 x32 x28 x111) ∧
 (x25 x124 x32 x28 x111 < x25 x26 x27 x28 x29)))))))))))) ∧
 ((litCmp BinOp.leq (Prod.fst (Prod.snd (Prod.snd x112))) x32 = false) →
 ((litCmp BinOp.neq (Prod.fst (Prod.snd x112)) (5 : Int) = true) →
 ∃ x125 : ArG,
 ∃ x126 : Ar,
 (True) ∧
 (False)) ∧
 ((litCmp BinOp.neq (Prod.fst (Prod.snd x112)) (5 : Int) = false) →
 ∀ x127 : Int,
 (x127 = litArith BinOp.add IntKind.i64 x26 (1 : Int)) →
 (x12 = x12) ∧
 ((x13 = x13) ∧
 ((x15 = x15) ∧
 ((x16 = x16) ∧
 ((x19 = x19) ∧
 ((x3 = x3) ∧
 (((↑(List.length x3) : Int) = (↑(List.length x3) : Int)) ∧
 (((↑(List.length x3) : Int) = (↑(List.length x3) : Int)) ∧
 ((x17 = x17) ∧
 ((x24 x127 x32 x28 x111) ∧
 (x25 x127 x32 x28 x111 < x25 x26 x27 x28 x29)))))))))))))))))))))))) ∧
 ((litCmp BinOp.lss x26 (↑(List.length x3) : Int) = false) →
 (hasA x16 x29 = true) ∧
 (∀ x128 : Ar,
 (UpA x16 (bkA x16 x29) x29 x128) →
 ∃ x129 : ArG,
 ∃ x130 : Ar,
 (True) ∧
 ((litCmp BinOp.eql (Prod.snd (cntB (Prod.fst (bkA x16 x29)))) (1 : Int) = true) ∧
 ((x17 = x129) ∧
 ((x128 = x130) ∧
              (True))))))))))))) := by
  rintro now gap per steps g0 l0 ⟨⟨⟨⟨⟨⟨_, hn⟩, hg⟩, hp⟩, hs⟩, _⟩, _⟩
  have hn := u64_of hn
  have hg := u64_of hg
  have hp := u64_of hp
  refine ⟨trivial, fun g1 l1 _ => ⟨fun q => absurd q (by decide), fun _ => ⟨fun _ => ⟨g1, l1, trivial, rfl, rfl, trivial⟩, fun hlen => ?_⟩⟩⟩
  rw [gtrF] at hlen
  intro N hN G hG P0 hP0 P hP
  rw [show (1099511627775 : Int) = ((2 ^ 40 - 1 : Nat) : Int) from rfl, andM_ 40 (by decide) hn.1 hn.2] at hN
  rw [show (1073741823 : Int) = ((2 ^ 30 - 1 : Nat) : Int) from rfl, andM_ 30 (by decide) hg.1 hg.2] at hG
  rw [show (1073741823 : Int) = ((2 ^ 30 - 1 : Nat) : Int) from rfl, andM_ 30 (by decide) hp.1 hp.2] at hP0
  have N0 : 0 ≤ N ∧ N < 1099511627776 := by rw [hN]; exact ⟨Int.emod_nonneg _ (by decide), Int.emod_lt_of_pos _ (by decide)⟩
  have G0 : 0 ≤ G ∧ G < 1073741824 := by rw [hG]; exact ⟨Int.emod_nonneg _ (by decide), Int.emod_lt_of_pos _ (by decide)⟩
  have Q0 : 0 ≤ P0 ∧ P0 < 1073741824 := by rw [hP0]; exact ⟨Int.emod_nonneg _ (by decide), Int.emod_lt_of_pos _ (by decide)⟩
  rw [addU_ (by omega) (by omega)] at hP
  have P1 : 0 < P ∧ P ≤ 1073741824 := by omega
  clear hN hG hP0 hP
  refine ⟨⟨by omega, by omega⟩, ?_⟩
  rintro e g2 l2 ⟨_, _, u⟩
  refine ⟨u.has, ?_⟩
  rintro j ok l3 ⟨hj, u3⟩
  rw [u.is] at hj u3
  obtain ⟨rfl, rfl⟩ := hj.found (j := 0) (by decide) (Int.lt_of_lt_of_le (by decide : (0 : Int) < 1) (Int.le_refl 1)) rfl (fun i i0 i1 => by omega)
  have b3 : bkA e l3 = ([idle], 0, N) := u3.is
  intro A hA
  rw [addU_ (by omega) (by omega)] at hA
  refine ⟨⟨u3.has, ⟨by decide, by decide⟩, ⟨by omega, by omega⟩, ⟨by omega, by omega⟩, by rw [b3]; exact ⟨Int.le_refl 0, (by decide : (0 : Int) < 9223372036854775806)⟩⟩, ?_⟩
  intro l4 u4
  rw [b3] at u4
  have b4 : bkA e l4 = ([(true, 1, 5, A, P, 1)], 1, N) := u4.is
  refine ⟨fun k t sum l => 0 ≤ k ∧ k ≤ steps.length ∧ N ≤ t ∧ t ≤ N + k * 8589934592 ∧ 0 ≤ sum ∧ (sum = 0 ∨ A + (sum - 1) * P ≤ t) ∧ hasA e l = true ∧ ∃ tn turn : Int, bkA e l = ([(true, 1, 5, A + sum * P, P, tn)], turn, t) ∧ 0 ≤ turn ∧ turn ≤ k + 1, fun k _ _ _ => ((steps.length : Int) - k).toNat, ⟨Int.le_refl _, Int.natCast_nonneg _, Int.le_refl _, by omega, Int.le_refl _, .inl rfl, u4.has, 1, 1, by rw [b4, Int.zero_mul, Int.add_zero], by decide, by decide⟩, ?_⟩
  rintro k t sum l ⟨k0, k1, t0, t1, s0, hj, he, tn, turn, hb, n0, n1⟩
  refine ⟨fun hk => ?_, fun _ => ⟨he, fun l' u' => ⟨g2, l', trivial, ?_, rfl, rfl, trivial⟩⟩⟩
  rotate_left
  · rw [hb]; rfl
  rw [lssT] at hk
  refine ⟨⟨k0, hk⟩, ?_⟩
  intro s hsx d hd t' ht'
  have hsu : u64ok s := by rw [hsx]; exact u64_ix hs k0 hk
  rw [show (8589934591 : Int) = ((2 ^ 33 - 1 : Nat) : Int) from rfl, andM_ 33 (by decide) hsu.1 hsu.2] at hd
  have d0 : 0 ≤ d ∧ d < 8589934592 := by rw [hd]; exact ⟨Int.emod_nonneg _ (by decide), Int.emod_lt_of_pos _ (by decide)⟩
  clear hd
  rw [addU_ (by omega) (by omega)] at ht'
  have tu : u64ok t' := ⟨by omega, by omega⟩
  refine ⟨⟨he, tu⟩, ?_⟩
  rintro o l5 ⟨ho, u5⟩
  rw [hb] at ho u5
  rw [outR_one (by omega)] at ho
  rw [toB_one (by omega)] at u5
  have b5 := u5.is
  refine ⟨u5.has, ?_⟩
  intro l6 u6 r hr A' hA'
  rw [addU_ (by omega) (by omega), ← hA] at hA'
  subst A'
  rw [b5, look_one] at hr
  rw [b5] at u6
  have b6 := u6.is
  have hj' : sum = 0 ∨ A + (sum - 1) * P ≤ t' := hj.imp id (fun h => by omega)
  have hsP := Int.mul_nonneg s0 (Int.le_of_lt P1.1)
  have hadd : litArith .add .i64 k 1 = k + 1 := addI_ (by omega) (by omega)
  -- the last part: what the book holds behind the step
  have fin : ∀ {sum' tn' turn' : Int} {l8 : Ar}, sum' = overs A P t' → hasA e l8 = true → bkA e l8 = ([(true, 1, 5, A + sum' * P, P, tn')], turn', t') → 0 ≤ turn' → turn' ≤ k + 2 → ∀ z : Int, z = litArith .add .i64 k 1 →
      (0 ≤ z ∧ z ≤ steps.length ∧ N ≤ t' ∧ t' ≤ N + z * 8589934592 ∧ 0 ≤ sum' ∧ (sum' = 0 ∨ A + (sum' - 1) * P ≤ t') ∧ hasA e l8 = true ∧ ∃ tn turn : Int, bkA e l8 = ([(true, 1, 5, A + sum' * P, P, tn)], turn, t') ∧ 0 ≤ turn ∧ turn ≤ z + 1) ∧ ((steps.length : Int) - z).toNat < ((steps.length : Int) - k).toNat := by
    rintro sum' tn' turn' l8 hs' h8 hb8 h0 h1 z rfl
    rw [hadd]
    have ho : 0 ≤ overs A P t' ∧ (overs A P t' = 0 ∨ A + (overs A P t' - 1) * P ≤ t') := by
      by_cases c : A ≤ t'
      · have := (overs_gt (A := A) (t := t') P1.1 (Int.le_refl 0)).2 (by omega)
        exact ⟨by omega, .inr (overs_le P1.1 c).1⟩
      · unfold overs; rw [if_neg c]; exact ⟨Int.le_refl _, .inl rfl⟩
    rw [← hs'] at ho
    exact ⟨⟨by omega, by omega, by omega, by omega, ho.1, ho.2, h8, tn', turn', hb8, h0, by omega⟩, meas hk⟩
  by_cases c : A + sum * P ≤ t'
  · -- it is due
    have hgt := (overs_gt (A := A) (t := t') P1.1 s0).2 c
    have hle := overs_le (A := A) (t := t') P1.1 (by omega)
    rw [if_pos c] at ho hr b6
    subst ho
    have hmany := many_over P1.1 s0 tu.1 c
    generalize hv : manyC (A + sum * P) P t' = v at hmany
    have v0 : 0 < v := by omega
    have hvP : A + (sum + v) * P ≤ t' + P := by
      rw [hmany]
      have := hle.1
      rw [Int.sub_mul, Int.one_mul] at this
      omega
    have hvP' : A + sum * P + v * P = A + (sum + v) * P := by rw [Int.add_mul]; omega
    have hvm : v ≤ v * P := by
      have := Int.mul_le_mul_of_nonneg_left (show 1 ≤ P by omega) (show 0 ≤ v by omega)
      omega
    have hsm : sum + v ≤ (sum + v) * P := by
      have := Int.mul_le_mul_of_nonneg_left (show 1 ≤ P by omega) (show 0 ≤ sum + v by omega)
      omega
    have hA0 : 0 ≤ A := by omega
    have hse := sent_one (h := 5) (tn := tn) (turn := turn) (nw := t') (show P ≠ 0 by omega) (by omega) (by omega) hv
    refine ⟨fun hge => ?_, fun hge => absurd hge (by rw [geqF]; omega)⟩
    rw [geqT] at hge
    intro a1 ha1 a2 ha2
    rw [subU_ (by omega) (by omega)] at ha1
    rw [subU_ (by omega) (by omega)] at ha2
    refine ⟨by omega, ?_⟩
    intro a3 ha3 ov hov
    rw [quoU_ (by omega) (by omega) P1.1] at ha3
    have hq0 : 0 ≤ a3 := by rw [ha3]; exact Int.ediv_nonneg (by omega) (by omega)
    have hq1 : a3 ≤ a2 := by rw [ha3]; exact Int.ediv_le_self _ (by omega)
    rw [addU_ (by omega) (by omega)] at hov
    have hov : ov = overs A P t' := by
      unfold overs
      rw [if_pos hge, hov, ha3, show a2 = t' - A from by omega]
    subst hov
    have e1 : litCmp .eql (([0] : List Int).length : Int) 1 = true := rfl
    have e2 : litCmp .gtr (overs A P t') sum = true := gtrT.mpr hgt
    have e3 : litCmp .eql r.1 2 = true := by rw [hr]; rfl
    refine ⟨fun q => (by rw [e1, e2] at q; exact absurd q (by decide)), fun _ => ⟨fun q => (by rw [e3, e2] at q; exact absurd q (by decide)), fun _ => ⟨fun _ => ⟨⟨u6.has, tu, by rw [b6]; exact ⟨n0, (by omega : turn < 9223372036854775806)⟩⟩, ?_⟩, fun q => (by rw [e2] at q; cases q)⟩⟩⟩
    rintro n l7 ⟨hn7, u7⟩
    rw [b6, hse] at hn7 u7
    have hn7 : n = v := hn7
    subst hn7
    have b7 : bkA e l7 = ([(true, 1, 5, A + sum * P + n * P, P, turn + 1)], turn + 1, t') := u7.is
    intro sum' hsum'
    rw [addU_ (by omega) (by omega), hmany] at hsum'
    subst hsum'
    refine ⟨u7.has, ?_⟩
    intro l8 u8 r2 hr2
    rw [b7, look_one] at hr2
    rw [b7] at u8
    have b8 := u8.is
    rw [hvP', hmany] at hr2 b8
    have r21 : r2.1 = 1 := by rw [hr2]
    have r22 : r2.2.1 = 5 := by rw [hr2]
    have r23 : r2.2.2.1 = A + overs A P t' * P := by rw [hr2]
    refine ⟨fun q => (by rw [neqT] at q; exact absurd rfl q), fun _ => ⟨fun q => (by rw [neqT, r21] at q; exact absurd rfl q), fun _ => ?_⟩⟩
    intro b1 hb1 b2 hb2 b3' hb3
    rw [addU_ (by omega) (by omega), ← hA] at hb1
    rw [hmany] at hsm hvP
    rw [mulU_ (by omega) (by omega)] at hb2
    rw [addU_ (by omega) (by omega), hb1, hb2] at hb3
    refine ⟨fun q => (by rw [neqT, r23, hb3] at q; exact absurd rfl q), fun _ => ⟨fun q => (by rw [leqT, r23] at q; omega), fun _ => ⟨fun q => (by rw [neqT, r22] at q; exact absurd rfl q), fun _ => ?_⟩⟩⟩
    intro z hz
    exact ⟨rfl, rfl, rfl, rfl, rfl, rfl, rfl, rfl, rfl, fin rfl u8.has b8 (by omega) (by omega) z hz⟩
  · -- it isn't
    rw [if_neg c] at ho hr b6
    subst ho
    have hov := overs_eq P1.1 s0 c hj'
    have e1 : litCmp .eql (([] : List Int).length : Int) 1 = false := rfl
    have e3 : litCmp .eql r.1 2 = false := by rw [hr]; rfl
    have hsb : sum = 0 ∨ A + (sum - 1) * P ≤ t' := hj'
    have hsb2 : sum * P ≤ t' - A + P ∨ sum = 0 := by
      rcases hj' with h | h
      · exact .inr h
      · rw [Int.sub_mul, Int.one_mul] at h; exact .inl (by omega)
    have hsm : sum ≤ sum * P := by
      have := Int.mul_le_mul_of_nonneg_left (show 1 ≤ P by omega) s0
      omega
    have hsu : sum * P < 9007199254740992 := by
      rcases hsb2 with h | h
      · omega
      · rw [h, Int.zero_mul]; decide
    have key : ∀ {l7 : Ar} {r2 : Rw}, UpA e (bkA e l6) l6 l7 → r2 = lookB (bkA e l6) 0 → bkA e l7 = ([(true, 1, 5, A + sum * P, P, tn)], turn, t') ∧ hasA e l7 = true ∧ r2.1 = 1 ∧ r2.2.1 = 5 ∧ r2.2.2.1 = A + sum * P := by
      intro l7 r2 u7 hr2
      rw [b6] at u7 hr2
      rw [look_one] at hr2
      exact ⟨u7.is, u7.has, by rw [hr2], by rw [hr2], by rw [hr2]⟩
    refine ⟨fun hge => ?_, fun hge => ?_⟩
    · rw [geqT] at hge
      intro a1 ha1 a2 ha2
      rw [subU_ (by omega) (by omega)] at ha1
      rw [subU_ (by omega) (by omega)] at ha2
      refine ⟨by omega, ?_⟩
      intro a3 ha3 ov hov'
      rw [quoU_ (by omega) (by omega) P1.1] at ha3
      have hq0 : 0 ≤ a3 := by rw [ha3]; exact Int.ediv_nonneg (by omega) (by omega)
      have hq1 : a3 ≤ a2 := by rw [ha3]; exact Int.ediv_le_self _ (by omega)
      rw [addU_ (by omega) (by omega)] at hov'
      have hov2 : ov = sum := by
        rw [← hov]
        unfold overs
        rw [if_pos hge, hov', ha3, show a2 = t' - A from by omega]
      subst hov2
      have e2 : litCmp .gtr ov ov = false := gtrF.mpr (Int.le_refl _)
      refine ⟨fun q => (by rw [e1, e2] at q; exact absurd q (by decide)), fun _ => ⟨fun q => (by rw [e3, e2] at q; exact absurd q (by decide)), fun _ => ⟨fun q => (by rw [e2] at q; cases q), fun _ => ⟨u6.has, ?_⟩⟩⟩⟩
      intro l7 u7 r2 hr2
      obtain ⟨b7, h7, r21, r22, r23⟩ := key u7 hr2
      refine ⟨fun q => (by rw [neqT] at q; exact absurd rfl q), fun _ => ⟨fun q => (by rw [neqT, r21] at q; exact absurd rfl q), fun _ => ?_⟩⟩
      intro b1 hb1 b2 hb2 b3' hb3
      rw [addU_ (by omega) (by omega), ← hA] at hb1
      rw [mulU_ (by omega) (by omega)] at hb2
      rw [addU_ (by omega) (by omega), hb1, hb2] at hb3
      refine ⟨fun q => (by rw [neqT, r23, hb3] at q; exact absurd rfl q), fun _ => ⟨fun q => (by rw [leqT, r23] at q; omega), fun _ => ⟨fun q => (by rw [neqT, r22] at q; exact absurd rfl q), fun _ => ?_⟩⟩⟩
      intro z hz
      exact ⟨rfl, rfl, rfl, rfl, rfl, rfl, rfl, rfl, rfl, fin hov.symm h7 b7 n0 (by omega) z hz⟩
    · rw [geqF] at hge
      have s1 : sum = 0 := by rw [← hov]; unfold overs; rw [if_neg (by omega)]
      subst s1
      have e2 : litCmp .gtr (0 : Int) 0 = false := rfl
      refine ⟨fun q => (by rw [e1, e2] at q; exact absurd q (by decide)), fun _ => ⟨fun q => (by rw [e3, e2] at q; exact absurd q (by decide)), fun _ => ⟨fun q => (by rw [e2] at q; cases q), fun _ => ⟨u6.has, ?_⟩⟩⟩⟩
      intro l7 u7 r2 hr2
      obtain ⟨b7, h7, r21, r22, r23⟩ := key u7 hr2
      refine ⟨fun q => (by rw [neqT] at q; exact absurd rfl q), fun _ => ⟨fun q => (by rw [neqT, r21] at q; exact absurd rfl q), fun _ => ?_⟩⟩
      intro b1 hb1 b2 hb2 b3' hb3
      rw [addU_ (by omega) (by omega), ← hA] at hb1
      rw [mulU_ (by omega) (by omega)] at hb2
      rw [addU_ (by omega) (by omega), hb1, hb2] at hb3
      refine ⟨fun q => (by rw [neqT, r23, hb3] at q; exact absurd rfl q), fun _ => ⟨fun q => (by rw [leqT, r23] at q; omega), fun _ => ⟨fun q => (by rw [neqT, r22] at q; exact absurd rfl q), fun _ => ?_⟩⟩⟩
      intro z hz
      exact ⟨rfl, rfl, rfl, rfl, rfl, rfl, rfl, rfl, rfl, fin hov.symm h7 b7 n0 (by omega) z hz⟩
set_option maxRecDepth 10000 in
theorem alarmBeats_ok : conAlarmBeats.ok KN Tryd.prog 4 := by
  refine Con.of_vc ([(0, ⟨[], [(49, .d (.i .i64)), (12, .d (.i .u64)), (13, .d (.i .u64))], [], [], [1]⟩)]) ([]) ([]) TT_ok follows Tryd.func4 ?_ G109_ok (@toVC _ _ alarmBeats_vc ?_)
  · kernel_rfl
  · kernel_rfl
noncomputable def G110c : List (FuncId × Con) := (4, conAlarmBeats) :: G109
theorem G110c_ok : GOK KN Tryd.prog G110c := GOK.cons (Callable.of Tryd.func4 (by kernel_rfl) (by kernel_rfl)) alarmBeats_ok G109_ok
end Go.Proofs.YtplefbcgpbdkfaaDoor
/- The card of AlarmBeats: it answers yes to every input; the table of bits that is read is the program's own. -/
namespace Go.Proofs.YtplefbcgpbdkfaaDoor.alarmBeatsDone
open Go Go.ChangeShapes Go.WideShapes Go.ChangeAt Go.RowKit Go.Joins Go.Fx

theorem wantsNone {P : Program} {ps : Array TypeId} (h : (ps.toList.all fun t => !P.wantsStandIn t) = true) {j : Nat} {t : TypeId} (ht : ps[j]? = some t) : P.wantsStandIn t = false := by
  have := List.all_eq_true.1 h t (List.mem_of_getElem? (by simpa using ht))
  simpa using this
theorem own : ownKnob Tryd.prog.godebug = none := by kernel_rfl
theorem laidOut : laidOutB Tryd.prog = true := by kernel_rfl
theorem gTab : Tryd.prog.globalNamed "math/bits.deBruijn64tab" = some 0 := by kernel_rfl
theorem tTab : (Tryd.prog.globals[0]?).map (·.type) = some 144 := by kernel_rfl
theorem laidIs {W : World} (h : laidMetH Tryd.prog Rows.alarmBeatsRow.laid W) : Lib.TabIs Tryd.prog W "math/bits.deBruijn64tab" .u8 (Lib.deBruijn64tab.map fun n => ((n : Nat) : Int)) := by
  rw [MakeChecks.laidMetH_plain _ _ _ (by kernel_rfl)] at h
  exact Lib.tabIs_of_head (rest := []) (n := 64) (e := 5) gTab tTab (by kernel_rfl) (by kernel_rfl) (by kernel_rfl) (by kernel_rfl) h
theorem glAt {W : World} (h : laidMetH Tryd.prog Rows.alarmBeatsRow.laid W) : KN.at_ W := by
  intro p hp
  obtain ⟨j, hj, rfl⟩ := List.mem_map.1 (show p ∈ glB from hp)
  have hj := List.mem_range.1 hj
  have hc : W.cell? ⟨0, j, none⟩ = some (.int .u8 ((Lib.deBruijn64tab.getD j 0 : Nat) : Int)) := by
    have := (laidIs h).cell gTab j (by rw [List.length_map]; exact hj)
    rw [this]
    congr 2
    simp only [List.getD_eq_getElem?_getD, List.getElem?_map]
    cases Lib.deBruijn64tab[j]? <;> rfl
  refine ⟨?_, hc⟩
  unfold World.cell? at hc
  simp only [Option.isSome_none, Bool.false_eq_true, if_false] at hc
  by_cases c : 0 < W.heap.size
  · exact c
  · rw [Array.getElem?_eq_none (by omega)] at hc; cases hc
theorem door_met (os : Os) (args : Array Value) : laidMetH Tryd.prog Rows.alarmBeatsRow.laid ((World.doorLaid Tryd.prog 400 os).forCall (fun _ _ => 0) ⟨#[], args, []⟩).memory :=
  laidMetH_of_parts3 (fuel := 8) (laidMet_of_run' 8 (by kernel_rfl) (by kernel_rfl)) (by kernel_rfl) (by kernel_rfl)
set_option maxRecDepth 100000 in
theorem lifted (os : Os) (started : os.Started) (H : Type) (enc : TypeId × Value → H) :
    ReturnsInHanded {} Tryd.checked os 4 .any (fun w args => (Rows.alarmBeatsSpec.pre enc Tryd.prog Tryd.f4 Rows.alarmBeatsRow.domain false w args ∧ laidMetH Tryd.prog Rows.alarmBeatsRow.laid w) ∧ sizedMet enc Tryd.prog Tryd.f4 (OpenSpec.ofChange Rows.alarmBeatsSpec) false w args)
      (Rows.alarmBeatsSpec.post enc Tryd.prog Tryd.f4 false true false false) := by
  refine returnsInHanded_of_change_and (C := Tryd.checked) (X := fun w _ => laidMetH Tryd.prog Rows.alarmBeatsRow.laid w) (fun _ _ _ hh h => h.of_heap hh) own started (by kernel_rfl) Tryd.func4
    (ChangeSpec.witness_shaped (enc := enc) (C := Tryd.checked) (os := os) (X := fun w _ => laidMetH Tryd.prog Rows.alarmBeatsRow.laid w) false (World.doorLaid Tryd.prog 400 os) #[.int .u64 0, .int .u64 0, .int .u64 0, .slice none 0 0] 8 rfl (World.shaped_of_RefB (by kernel_rfl) (by kernel_rfl)) (by kernel_rfl) (by kernel_rfl) (by kernel_rfl) (door_met os _)) ?_
  intro W base args ds gs before hval hW hcnd _ hL _
  have hW' := hW
  obtain ⟨p, q, hA, hV, rfl, hfz, hnd⟩ := hW
  obtain ⟨rfl, rfl⟩ := trodVars_none hV
  obtain ⟨us, h1, h2, h3⟩ := rowIn (d := 8) ([.i .u64, .i .u64, .i .u64, .sl (.i .u64)]) hA (by kernel_rfl) (fun j t v ht hv => hval j t v (by simpa using ht) (by simpa using hv))
  have hc := lawTA_walk (show (lawTA KN ([.i .u64, .i .u64, .i .u64, .sl (.i .u64)]) [1, 3]).ok KN Tryd.prog 4 from alarmBeats_ok) us h1 h2 W (glAt hL) _ h3
  rw [Array.toArray_toList] at hc
  have hA' := hA
  rw [Tryd.params4] at hA'
  obtain ⟨v0, vs0, d0, ds0, p0, q0, e0, rfl, rfl, _, r0⟩ := trodAll_cons hA'
  obtain ⟨v1, vs1, d1, ds1, p1, q1, e1, rfl, rfl, _, r1⟩ := trodAll_cons r0
  obtain ⟨v2, vs2, d2, ds2, p2, q2, e2, rfl, rfl, _, r2⟩ := trodAll_cons r1
  obtain ⟨v3, vs3, d3, ds3, p3, q3, e3, rfl, rfl, _, r3⟩ := trodAll_cons r2
  obtain ⟨_, rfl, rfl⟩ := trodAll_nil r3
  refine hc.mono fun e W' ⟨he, bel⟩ => ?_
  subst he
  exact ⟨_, rfl, _, _, _, [], _, [], hW', trodAll_mk1 (shut_bool Tryd.underlying4 _), rowOut laidOut bel (by kernel_rfl) hA, rfl, bel.frame _, fun h => by cases h⟩

theorem over : Rows.alarmBeatsRow.holds Tryd.pinned (OpenSpec.ofChange Rows.alarmBeatsSpec) :=
  OpenClaim.holds_of_wide 4 Tryd.f4 rfl rfl rfl rfl rfl rfl rfl ⟨rfl, rfl, rfl, rfl, rfl⟩ rfl rfl rfl rfl rfl (by kernel_rfl) Tryd.func4 (by kernel_rfl)
    (of_decide_eq_true (by kernel_rfl)) (by unfold Func.isWrapper; first | (rw [if_pos (by decide +kernel)]; kernel_rfl) | (rw [if_neg (by decide +kernel)]; exact ⟨rfl, rfl⟩))
    (fun os started H enc _ => lifted os started H enc)

/-- The statement. -/
theorem proved : Rows.AlarmBeatsCardSaid :=
  Claim7.holds_tied_plain_at .later [] [.data] true (true, "3a02e29e3b0c33c5a0fe985bdd6831eedcb6f3b33517c4291dff9e05887cec17") false
    over (fun _ h => by cases h) (by kernel_rfl) (fun _ h => by cases h) alarmBeats_row_tie rfl ⟨rfl, rfl⟩ (by kernel_rfl) rfl
    (fun f fn hf hfn => by
      obtain rfl : f = 4 := Option.some.inj ((show Tryd.prog.funcNamed "nightjar/nightjarlaw08.AlarmBeats" = some 4 by kernel_rfl).symm.trans hf) |>.symm
      obtain rfl : fn = Tryd.f4 := (Option.some.inj (Tryd.func4.symm.trans hfn)).symm
      exact ⟨by kernel_rfl, fun j t ht => wantsNone (by kernel_rfl) ht⟩)
    (by kernel_rfl)
#print axioms proved
end Go.Proofs.YtplefbcgpbdkfaaDoor.alarmBeatsDone
