/- What the functions of package call do, and those of its document. -/
import Derived.Test.YtkhbodngiodklaaVa
set_option linter.all false
namespace Go.Proofs.Ytkhbodngiodklaa
open Go Go.Fx
noncomputable def G0 : List (FuncId × Con) := []
theorem G0_ok : GOK KK Try.prog G0 := GOK.nil

set_option maxRecDepth 10000 in
theorem other_vc :
  ∀ x0 : Int,
  ((6 : Int) < x0 ∨ x0 < (0 : Int)) →
  ((litCmp BinOp.eql x0 (7 : Int) = true) →
   ∀ x1 : (ByteArray × (Int × (Int × Int))),
   (x1 = ({ data := #[(119 : UInt8), (97 : UInt8), (116 : UInt8), (99 : UInt8), (104 : UInt8)] }, (3 : Int), (2 : Int), (1 : Int))) →
   (True) ∧
   ((x1 = ofF x0) ∧
    ((true = isop x0) ∧
     (True)))) ∧
  ((litCmp BinOp.eql x0 (7 : Int) = false) →
   ((litCmp BinOp.eql x0 (8 : Int) = true) →
    ∀ x2 : (ByteArray × (Int × (Int × Int))),
    (x2 = ({ data := #[(117 : UInt8), (110 : UInt8), (119 : UInt8), (97 : UInt8), (116 : UInt8), (99 : UInt8), (104 : UInt8)] }, (1 : Int), (2 : Int), (2 : Int))) →
    (True) ∧
    ((x2 = ofF x0) ∧
     ((true = isop x0) ∧
      (True)))) ∧
   ((litCmp BinOp.eql x0 (8 : Int) = false) →
    ((litCmp BinOp.eql x0 (9 : Int) = true) →
     ∀ x3 : (ByteArray × (Int × (Int × Int))),
     (x3 = ({ data := #[(99 : UInt8), (111 : UInt8), (110 : UInt8), (100 : UInt8)] }, (1 : Int), (2 : Int), (4 : Int))) →
     (True) ∧
     ((x3 = ofF x0) ∧
      ((true = isop x0) ∧
       (True)))) ∧
    ((litCmp BinOp.eql x0 (9 : Int) = false) →
     ((litCmp BinOp.eql x0 (10 : Int) = true) →
      ∀ x4 : (ByteArray × (Int × (Int × Int))),
      (x4 = ({ data := #[(97 : UInt8), (99 : UInt8), (107 : UInt8)] }, (2 : Int), (2 : Int), (4 : Int))) →
      (True) ∧
      ((x4 = ofF x0) ∧
       ((true = isop x0) ∧
        (True)))) ∧
     ((litCmp BinOp.eql x0 (10 : Int) = false) →
      ((litCmp BinOp.eql x0 (11 : Int) = true) →
       ∀ x5 : (ByteArray × (Int × (Int × Int))),
       (x5 = ({ data := #[(117 : UInt8), (115 : UInt8), (101 : UInt8), (100 : UInt8)] }, (1 : Int), (0 : Int), (0 : Int))) →
       (True) ∧
       ((x5 = ofF x0) ∧
        ((true = isop x0) ∧
         (True)))) ∧
      ((litCmp BinOp.eql x0 (11 : Int) = false) →
       ((litCmp BinOp.eql x0 (12 : Int) = true) →
        ∀ x6 : (ByteArray × (Int × (Int × Int))),
        (x6 = ({ data := #[(110 : UInt8), (111 : UInt8), (119 : UInt8)] }, (0 : Int), (0 : Int), (0 : Int))) →
        (True) ∧
        ((x6 = ofF x0) ∧
         ((true = isop x0) ∧
          (True)))) ∧
       ((litCmp BinOp.eql x0 (12 : Int) = false) →
        ∀ x7 : (ByteArray × (Int × (Int × Int))),
        (x7 = (ByteArray.empty, (0 : Int), (0 : Int), (0 : Int))) →
        (True) ∧
        ((x7 = ofF x0) ∧
         ((false = isop x0) ∧
          (True))))))))) := by
  intro x0 h
  simp only [litCmp, beq_iff_eq, beq_eq_false_iff_ne, true_and, and_true, forall_eq]
  refine ⟨fun e => ?_, fun e1 => ⟨fun e => ?_, fun e2 => ⟨fun e => ?_, fun e3 => ⟨fun e => ?_, fun e4 => ⟨fun e => ?_, fun e5 => ⟨fun e => ?_, fun e6 => ?_⟩⟩⟩⟩⟩⟩
  all_goals first | (subst e; decide) | skip
  obtain ⟨q1, q2, q3, q4⟩ := out_op (op := x0) (by omega)
  refine ⟨by simp only [ofF, q1, q2, q3, q4]; rfl, ?_⟩
  simp [isop]; omega
set_option maxRecDepth 10000 in
theorem other_ok : conOther.ok KK Try.prog 37 := by
  refine Con.of_vc ([]) ([]) TT_ok follows Try.func37 ?_ G0_ok (@toVC _ _ other_vc ?_)
  · kernel_rfl
  · kernel_rfl
noncomputable def G1 : List (FuncId × Con) := (37, conOther) :: G0
theorem G1_ok : GOK KK Try.prog G1 := GOK.cons (Callable.of Try.func37 (by kernel_rfl) (by kernel_rfl)) other_ok G0_ok

set_option maxRecDepth 10000 in
theorem of_vc :
  ∀ x0 : Int,
  True →
  ((litCmp BinOp.eql x0 (0 : Int) = true) →
   ∀ x1 : (ByteArray × (Int × (Int × Int))),
   (x1 = ({ data := #[(111 : UInt8), (112 : UInt8), (101 : UInt8), (110 : UInt8)] }, (1 : Int), (0 : Int), (0 : Int))) →
   (True) ∧
   ((x1 = ofF x0) ∧
    ((true = isop x0) ∧
     (True)))) ∧
  ((litCmp BinOp.eql x0 (0 : Int) = false) →
   ((litCmp BinOp.eql x0 (1 : Int) = true) →
    ∀ x2 : (ByteArray × (Int × (Int × Int))),
    (x2 = ({ data := #[(116 : UInt8), (105 : UInt8), (109 : UInt8), (101 : UInt8), (114 : UInt8)] }, (0 : Int), (0 : Int), (0 : Int))) →
    (True) ∧
    ((x2 = ofF x0) ∧
     ((true = isop x0) ∧
      (True)))) ∧
   ((litCmp BinOp.eql x0 (1 : Int) = false) →
    ((litCmp BinOp.eql x0 (2 : Int) = true) →
     ∀ x3 : (ByteArray × (Int × (Int × Int))),
     (x3 = ({ data := #[(100 : UInt8), (117 : UInt8), (112 : UInt8)] }, (2 : Int), (0 : Int), (8 : Int))) →
     (True) ∧
     ((x3 = ofF x0) ∧
      ((true = isop x0) ∧
       (True)))) ∧
    ((litCmp BinOp.eql x0 (2 : Int) = false) →
     ((litCmp BinOp.eql x0 (3 : Int) = true) →
      ∀ x4 : (ByteArray × (Int × (Int × Int))),
      (x4 = ({ data := #[(100 : UInt8), (114 : UInt8), (111 : UInt8), (112 : UInt8)] }, (1 : Int), (0 : Int), (0 : Int))) →
      (True) ∧
      ((x4 = ofF x0) ∧
       ((true = isop x0) ∧
        (True)))) ∧
     ((litCmp BinOp.eql x0 (3 : Int) = false) →
      ((litCmp BinOp.eql x0 (4 : Int) = true) →
       ∀ x5 : (ByteArray × (Int × (Int × Int))),
       (x5 = ({ data := #[(97 : UInt8), (114 : UInt8), (109 : UInt8)] }, (3 : Int), (1 : Int), (1 : Int))) →
       (True) ∧
       ((x5 = ofF x0) ∧
        ((true = isop x0) ∧
         (True)))) ∧
      ((litCmp BinOp.eql x0 (4 : Int) = false) →
       ((litCmp BinOp.eql x0 (5 : Int) = true) →
        ∀ x6 : (ByteArray × (Int × (Int × Int))),
        (x6 = ({ data := #[(115 : UInt8), (116 : UInt8), (111 : UInt8), (112 : UInt8)] }, (1 : Int), (1 : Int), (2 : Int))) →
        (True) ∧
        ((x6 = ofF x0) ∧
         ((true = isop x0) ∧
          (True)))) ∧
       ((litCmp BinOp.eql x0 (5 : Int) = false) →
        ((litCmp BinOp.eql x0 (6 : Int) = true) →
         ∀ x7 : (ByteArray × (Int × (Int × Int))),
         (x7 = ({ data := #[(119 : UInt8), (104 : UInt8), (101 : UInt8), (110 : UInt8)] }, (1 : Int), (1 : Int), (4 : Int))) →
         (True) ∧
         ((x7 = ofF x0) ∧
          ((true = isop x0) ∧
           (True)))) ∧
        ((litCmp BinOp.eql x0 (6 : Int) = false) →
         ((6 : Int) < x0 ∨ x0 < (0 : Int)) ∧
         (True →
          ∀ x8 : (ByteArray × (Int × (Int × Int))),
          (x8 = ofF x0) →
          (True) ∧
          ((x8 = ofF x0) ∧
           ((isop x0 = isop x0) ∧
            (True))))))))))) := by
  intro x0 _
  simp only [litCmp, beq_iff_eq, beq_eq_false_iff_ne, true_and, and_true, true_implies, forall_eq]
  refine ⟨fun e => ?_, fun e0 => ⟨fun e => ?_, fun e1 => ⟨fun e => ?_, fun e2 => ⟨fun e => ?_, fun e3 => ⟨fun e => ?_, fun e4 => ⟨fun e => ?_, fun e5 => ⟨fun e => ?_, fun e6 => ?_⟩⟩⟩⟩⟩⟩⟩
  all_goals first | (subst e; decide) | skip
  omega
set_option maxRecDepth 10000 in
theorem of_ok : conOf.ok KK Try.prog 14 := by
  refine Con.of_vc ([]) ([]) TT_ok follows Try.func14 ?_ G1_ok (@toVC _ _ of_vc ?_)
  · kernel_rfl
  · kernel_rfl
noncomputable def G2 : List (FuncId × Con) := (14, conOf) :: G1
theorem G2_ok : GOK KK Try.prog G2 := GOK.cons (Callable.of Try.func14 (by kernel_rfl) (by kernel_rfl)) of_ok G1_ok

set_option maxRecDepth 10000 in
theorem right_vc :
  ∀ x0 : (Int × (Int × (Int × Int))),
  True →
  (True) ∧
  (True →
   ∀ x1 : (ByteArray × (Int × (Int × Int))),
   (x1 = ofF (Prod.fst x0)) →
   ((isop (Prod.fst x0) = true) →
    ((litCmp BinOp.gtr (Prod.fst (Prod.snd x1)) (0 : Int) = true) →
     ((litCmp BinOp.gtr (Prod.fst (Prod.snd x1)) (1 : Int) = true) →
      ((litCmp BinOp.gtr (Prod.fst (Prod.snd x1)) (2 : Int) = true) →
       (True) ∧
       ((true = rightC x0) ∧
        (True))) ∧
      ((litCmp BinOp.gtr (Prod.fst (Prod.snd x1)) (2 : Int) = false) →
       (True) ∧
       ((litCmp BinOp.eql (Prod.snd (Prod.snd (Prod.snd x0))) (0 : Int) = rightC x0) ∧
        (True)))) ∧
     ((litCmp BinOp.gtr (Prod.fst (Prod.snd x1)) (1 : Int) = false) →
      ((litCmp BinOp.eql (Prod.fst (Prod.snd (Prod.snd x0))) (0 : Int) = true) →
       ((litCmp BinOp.gtr (Prod.fst (Prod.snd x1)) (2 : Int) = true) →
        (True) ∧
        ((true = rightC x0) ∧
         (True))) ∧
       ((litCmp BinOp.gtr (Prod.fst (Prod.snd x1)) (2 : Int) = false) →
        (True) ∧
        ((litCmp BinOp.eql (Prod.snd (Prod.snd (Prod.snd x0))) (0 : Int) = rightC x0) ∧
         (True)))) ∧
      ((litCmp BinOp.eql (Prod.fst (Prod.snd (Prod.snd x0))) (0 : Int) = false) →
       (True) ∧
       ((false = rightC x0) ∧
        (True))))) ∧
    ((litCmp BinOp.gtr (Prod.fst (Prod.snd x1)) (0 : Int) = false) →
     ((litCmp BinOp.eql (Prod.fst (Prod.snd x0)) (0 : Int) = true) →
      ((litCmp BinOp.gtr (Prod.fst (Prod.snd x1)) (1 : Int) = true) →
       ((litCmp BinOp.gtr (Prod.fst (Prod.snd x1)) (2 : Int) = true) →
        (True) ∧
        ((true = rightC x0) ∧
         (True))) ∧
       ((litCmp BinOp.gtr (Prod.fst (Prod.snd x1)) (2 : Int) = false) →
        (True) ∧
        ((litCmp BinOp.eql (Prod.snd (Prod.snd (Prod.snd x0))) (0 : Int) = rightC x0) ∧
         (True)))) ∧
      ((litCmp BinOp.gtr (Prod.fst (Prod.snd x1)) (1 : Int) = false) →
       ((litCmp BinOp.eql (Prod.fst (Prod.snd (Prod.snd x0))) (0 : Int) = true) →
        ((litCmp BinOp.gtr (Prod.fst (Prod.snd x1)) (2 : Int) = true) →
         (True) ∧
         ((true = rightC x0) ∧
          (True))) ∧
        ((litCmp BinOp.gtr (Prod.fst (Prod.snd x1)) (2 : Int) = false) →
         (True) ∧
         ((litCmp BinOp.eql (Prod.snd (Prod.snd (Prod.snd x0))) (0 : Int) = rightC x0) ∧
          (True)))) ∧
       ((litCmp BinOp.eql (Prod.fst (Prod.snd (Prod.snd x0))) (0 : Int) = false) →
        (True) ∧
        ((false = rightC x0) ∧
         (True))))) ∧
     ((litCmp BinOp.eql (Prod.fst (Prod.snd x0)) (0 : Int) = false) →
      (True) ∧
      ((false = rightC x0) ∧
       (True))))) ∧
   ((isop (Prod.fst x0) = false) →
    (True) ∧
    ((false = rightC x0) ∧
     (True)))) := by
  rintro ⟨op, a, b, c⟩ _
  simp only [litCmp, beq_iff_eq, beq_eq_false_iff_ne, decide_eq_true_eq, decide_eq_false_iff_not, true_and, and_true, true_implies, forall_eq, ofF]
  repeat' first | refine ⟨?_, ?_⟩ | intro _
  all_goals
    simp_all [rightC]
    try omega
set_option maxRecDepth 10000 in
theorem right_ok : conRight.ok KK Try.prog 20 := by
  refine Con.of_vc ([]) ([]) TT_ok follows Try.func20 ?_ G2_ok (@toVC _ _ right_vc ?_)
  · kernel_rfl
  · kernel_rfl
noncomputable def G3 : List (FuncId × Con) := (20, conRight) :: G2
theorem G3_ok : GOK KK Try.prog G3 := GOK.cons (Callable.of Try.func20 (by kernel_rfl) (by kernel_rfl)) right_ok G2_ok

set_option maxRecDepth 10000 in
theorem bytes_vc :
  ∀ x0 : (Int × (Int × (Int × Int))),
  True →
  (True) ∧
  (True →
   (((!rightC x0) = true) →
    (True) ∧
    ((false = rightC x0) ∧
     (((if rightC x0 = true then callL x0 else []) = []) ∧
      (((0 : Int) = (↑(List.length (if rightC x0 = true then callL x0 else [])) : Int)) ∧
       (True))))) ∧
   (((!rightC x0) = false) →
    ∀ x1 : Int,
    (x1 = IntKind.wrap IntKind.u8 (Prod.fst x0)) →
    ∀ x2 : Int,
    (x2 = litArith BinOp.shr IntKind.u64 (Prod.fst (Prod.snd x0)) (0 : Int)) →
    ∀ x3 : Int,
    (x3 = IntKind.wrap IntKind.u8 x2) →
    ∀ x4 : List Int,
    (x4 = [x1] ++ [x3]) →
    ∀ x5 : Int,
    (x5 = litArith BinOp.shr IntKind.u64 (Prod.fst (Prod.snd x0)) (8 : Int)) →
    ∀ x6 : Int,
    (x6 = IntKind.wrap IntKind.u8 x5) →
    ∀ x7 : List Int,
    (x7 = x4 ++ [x6]) →
    ∀ x8 : Int,
    (x8 = litArith BinOp.shr IntKind.u64 (Prod.fst (Prod.snd x0)) (16 : Int)) →
    ∀ x9 : Int,
    (x9 = IntKind.wrap IntKind.u8 x8) →
    ∀ x10 : List Int,
    (x10 = x7 ++ [x9]) →
    ∀ x11 : Int,
    (x11 = litArith BinOp.shr IntKind.u64 (Prod.fst (Prod.snd x0)) (24 : Int)) →
    ∀ x12 : Int,
    (x12 = IntKind.wrap IntKind.u8 x11) →
    ∀ x13 : List Int,
    (x13 = x10 ++ [x12]) →
    ∀ x14 : Int,
    (x14 = litArith BinOp.shr IntKind.u64 (Prod.fst (Prod.snd x0)) (32 : Int)) →
    ∀ x15 : Int,
    (x15 = IntKind.wrap IntKind.u8 x14) →
    ∀ x16 : List Int,
    (x16 = x13 ++ [x15]) →
    ∀ x17 : Int,
    (x17 = litArith BinOp.shr IntKind.u64 (Prod.fst (Prod.snd x0)) (40 : Int)) →
    ∀ x18 : Int,
    (x18 = IntKind.wrap IntKind.u8 x17) →
    ∀ x19 : List Int,
    (x19 = x16 ++ [x18]) →
    ∀ x20 : Int,
    (x20 = litArith BinOp.shr IntKind.u64 (Prod.fst (Prod.snd x0)) (48 : Int)) →
    ∀ x21 : Int,
    (x21 = IntKind.wrap IntKind.u8 x20) →
    ∀ x22 : List Int,
    (x22 = x19 ++ [x21]) →
    ∀ x23 : Int,
    (x23 = litArith BinOp.shr IntKind.u64 (Prod.fst (Prod.snd x0)) (56 : Int)) →
    ∀ x24 : Int,
    (x24 = IntKind.wrap IntKind.u8 x23) →
    ∀ x25 : List Int,
    (x25 = x22 ++ [x24]) →
    ∀ x26 : Int,
    (x26 = litArith BinOp.shr IntKind.u64 (Prod.fst (Prod.snd (Prod.snd x0))) (0 : Int)) →
    ∀ x27 : Int,
    (x27 = IntKind.wrap IntKind.u8 x26) →
    ∀ x28 : List Int,
    (x28 = x25 ++ [x27]) →
    ∀ x29 : Int,
    (x29 = litArith BinOp.shr IntKind.u64 (Prod.fst (Prod.snd (Prod.snd x0))) (8 : Int)) →
    ∀ x30 : Int,
    (x30 = IntKind.wrap IntKind.u8 x29) →
    ∀ x31 : List Int,
    (x31 = x28 ++ [x30]) →
    ∀ x32 : Int,
    (x32 = litArith BinOp.shr IntKind.u64 (Prod.fst (Prod.snd (Prod.snd x0))) (16 : Int)) →
    ∀ x33 : Int,
    (x33 = IntKind.wrap IntKind.u8 x32) →
    ∀ x34 : List Int,
    (x34 = x31 ++ [x33]) →
    ∀ x35 : Int,
    (x35 = litArith BinOp.shr IntKind.u64 (Prod.fst (Prod.snd (Prod.snd x0))) (24 : Int)) →
    ∀ x36 : Int,
    (x36 = IntKind.wrap IntKind.u8 x35) →
    ∀ x37 : List Int,
    (x37 = x34 ++ [x36]) →
    ∀ x38 : Int,
    (x38 = litArith BinOp.shr IntKind.u64 (Prod.fst (Prod.snd (Prod.snd x0))) (32 : Int)) →
    ∀ x39 : Int,
    (x39 = IntKind.wrap IntKind.u8 x38) →
    ∀ x40 : List Int,
    (x40 = x37 ++ [x39]) →
    ∀ x41 : Int,
    (x41 = litArith BinOp.shr IntKind.u64 (Prod.fst (Prod.snd (Prod.snd x0))) (40 : Int)) →
    ∀ x42 : Int,
    (x42 = IntKind.wrap IntKind.u8 x41) →
    ∀ x43 : List Int,
    (x43 = x40 ++ [x42]) →
    ∀ x44 : Int,
    (x44 = litArith BinOp.shr IntKind.u64 (Prod.fst (Prod.snd (Prod.snd x0))) (48 : Int)) →
    ∀ x45 : Int,
    (x45 = IntKind.wrap IntKind.u8 x44) →
    ∀ x46 : List Int,
    (x46 = x43 ++ [x45]) →
    ∀ x47 : Int,
    (x47 = litArith BinOp.shr IntKind.u64 (Prod.fst (Prod.snd (Prod.snd x0))) (56 : Int)) →
    ∀ x48 : Int,
    (x48 = IntKind.wrap IntKind.u8 x47) →
    ∀ x49 : List Int,
    (x49 = x46 ++ [x48]) →
    ∀ x50 : Int,
    (x50 = litArith BinOp.shr IntKind.u64 (Prod.snd (Prod.snd (Prod.snd x0))) (0 : Int)) →
    ∀ x51 : Int,
    (x51 = IntKind.wrap IntKind.u8 x50) →
    ∀ x52 : List Int,
    (x52 = x49 ++ [x51]) →
    ∀ x53 : Int,
    (x53 = litArith BinOp.shr IntKind.u64 (Prod.snd (Prod.snd (Prod.snd x0))) (8 : Int)) →
    ∀ x54 : Int,
    (x54 = IntKind.wrap IntKind.u8 x53) →
    ∀ x55 : List Int,
    (x55 = x52 ++ [x54]) →
    ∀ x56 : Int,
    (x56 = litArith BinOp.shr IntKind.u64 (Prod.snd (Prod.snd (Prod.snd x0))) (16 : Int)) →
    ∀ x57 : Int,
    (x57 = IntKind.wrap IntKind.u8 x56) →
    ∀ x58 : List Int,
    (x58 = x55 ++ [x57]) →
    ∀ x59 : Int,
    (x59 = litArith BinOp.shr IntKind.u64 (Prod.snd (Prod.snd (Prod.snd x0))) (24 : Int)) →
    ∀ x60 : Int,
    (x60 = IntKind.wrap IntKind.u8 x59) →
    ∀ x61 : List Int,
    (x61 = x58 ++ [x60]) →
    ∀ x62 : Int,
    (x62 = litArith BinOp.shr IntKind.u64 (Prod.snd (Prod.snd (Prod.snd x0))) (32 : Int)) →
    ∀ x63 : Int,
    (x63 = IntKind.wrap IntKind.u8 x62) →
    ∀ x64 : List Int,
    (x64 = x61 ++ [x63]) →
    ∀ x65 : Int,
    (x65 = litArith BinOp.shr IntKind.u64 (Prod.snd (Prod.snd (Prod.snd x0))) (40 : Int)) →
    ∀ x66 : Int,
    (x66 = IntKind.wrap IntKind.u8 x65) →
    ∀ x67 : List Int,
    (x67 = x64 ++ [x66]) →
    ∀ x68 : Int,
    (x68 = litArith BinOp.shr IntKind.u64 (Prod.snd (Prod.snd (Prod.snd x0))) (48 : Int)) →
    ∀ x69 : Int,
    (x69 = IntKind.wrap IntKind.u8 x68) →
    ∀ x70 : List Int,
    (x70 = x67 ++ [x69]) →
    ∀ x71 : Int,
    (x71 = litArith BinOp.shr IntKind.u64 (Prod.snd (Prod.snd (Prod.snd x0))) (56 : Int)) →
    ∀ x72 : Int,
    (x72 = IntKind.wrap IntKind.u8 x71) →
    ∀ x73 : List Int,
    (x73 = x70 ++ [x72]) →
    (True) ∧
    ((true = rightC x0) ∧
     ((x73 = if rightC x0 = true then callL x0 else []) ∧
      (((25 : Int) = (↑(List.length (if rightC x0 = true then callL x0 else [])) : Int)) ∧
       (True)))))) := by
  rintro ⟨op, a, b, c⟩ _
  simp only [true_and, and_true, true_implies, forall_eq, Bool.not_eq_true', Bool.not_eq_false']
  refine ⟨fun h => ?_, fun h => ?_⟩
  · simp [h]
  · simp [h, callL, le8, shr0, shr8, shr16, shr24, shr32, shr40, shr48, shr56, wrap8]
set_option maxRecDepth 10000 in
theorem bytes_ok : conBytes.ok KK Try.prog 22 := by
  refine Con.of_vc ([]) ([]) TT_ok follows Try.func22 ?_ G3_ok (@toVC _ _ bytes_vc ?_)
  · kernel_rfl
  · kernel_rfl
noncomputable def G4 : List (FuncId × Con) := (22, conBytes) :: G3
theorem G4_ok : GOK KK Try.prog G4 := GOK.cons (Callable.of Try.func22 (by kernel_rfl) (by kernel_rfl)) bytes_ok G3_ok

set_option maxRecDepth 10000 in
theorem read_vc :
  ∀ x0 : List Int,
  (bytes x0) →
  ((litCmp BinOp.neq (↑(List.length x0) : Int) (25 : Int) = true) →
   ∀ x1 : (Int × (Int × (Int × Int))),
   (x1 = ((0 : Int), (0 : Int), (0 : Int), (0 : Int))) →
   (True) ∧
   ((x1 = readC x0) ∧
    ((false = readOK x0) ∧
     (True)))) ∧
  ((litCmp BinOp.neq (↑(List.length x0) : Int) (25 : Int) = false) →
   (((0 : Int) ≤ (0 : Int)) ∧
    ((0 : Int) < (↑(List.length x0) : Int))) ∧
   ((((0 : Int) ≤ (24 : Int)) ∧
     ((24 : Int) < (↑(List.length x0) : Int))) ∧
    ((((0 : Int) ≤ (23 : Int)) ∧
      ((23 : Int) < (↑(List.length x0) : Int))) ∧
     ((((0 : Int) ≤ (22 : Int)) ∧
       ((22 : Int) < (↑(List.length x0) : Int))) ∧
      ((((0 : Int) ≤ (21 : Int)) ∧
        ((21 : Int) < (↑(List.length x0) : Int))) ∧
       ((((0 : Int) ≤ (20 : Int)) ∧
         ((20 : Int) < (↑(List.length x0) : Int))) ∧
        ((((0 : Int) ≤ (19 : Int)) ∧
          ((19 : Int) < (↑(List.length x0) : Int))) ∧
         ((((0 : Int) ≤ (18 : Int)) ∧
           ((18 : Int) < (↑(List.length x0) : Int))) ∧
          ((((0 : Int) ≤ (17 : Int)) ∧
            ((17 : Int) < (↑(List.length x0) : Int))) ∧
           ((((0 : Int) ≤ (16 : Int)) ∧
             ((16 : Int) < (↑(List.length x0) : Int))) ∧
            ((((0 : Int) ≤ (15 : Int)) ∧
              ((15 : Int) < (↑(List.length x0) : Int))) ∧
             ((((0 : Int) ≤ (14 : Int)) ∧
               ((14 : Int) < (↑(List.length x0) : Int))) ∧
              ((((0 : Int) ≤ (13 : Int)) ∧
                ((13 : Int) < (↑(List.length x0) : Int))) ∧
               ((((0 : Int) ≤ (12 : Int)) ∧
                 ((12 : Int) < (↑(List.length x0) : Int))) ∧
                ((((0 : Int) ≤ (11 : Int)) ∧
                  ((11 : Int) < (↑(List.length x0) : Int))) ∧
                 ((((0 : Int) ≤ (10 : Int)) ∧
                   ((10 : Int) < (↑(List.length x0) : Int))) ∧
                  ((((0 : Int) ≤ (9 : Int)) ∧
                    ((9 : Int) < (↑(List.length x0) : Int))) ∧
                   ((((0 : Int) ≤ (8 : Int)) ∧
                     ((8 : Int) < (↑(List.length x0) : Int))) ∧
                    ((((0 : Int) ≤ (7 : Int)) ∧
                      ((7 : Int) < (↑(List.length x0) : Int))) ∧
                     ((((0 : Int) ≤ (6 : Int)) ∧
                       ((6 : Int) < (↑(List.length x0) : Int))) ∧
                      ((((0 : Int) ≤ (5 : Int)) ∧
                        ((5 : Int) < (↑(List.length x0) : Int))) ∧
                       ((((0 : Int) ≤ (4 : Int)) ∧
                         ((4 : Int) < (↑(List.length x0) : Int))) ∧
                        ((((0 : Int) ≤ (3 : Int)) ∧
                          ((3 : Int) < (↑(List.length x0) : Int))) ∧
                         ((((0 : Int) ≤ (2 : Int)) ∧
                           ((2 : Int) < (↑(List.length x0) : Int))) ∧
                          ((((0 : Int) ≤ (1 : Int)) ∧
                            ((1 : Int) < (↑(List.length x0) : Int))) ∧
                           ((True) ∧
                            (True →
                             (((!rightC (IntKind.wrap IntKind.i64 (ix x0 (0 : Int)), litArith BinOp.or IntKind.u64 (litArith BinOp.or IntKind.u64 (litArith BinOp.or IntKind.u64 (litArith BinOp.or IntKind.u64 (litArith BinOp.or IntKind.u64 (litArith BinOp.or IntKind.u64 (litArith BinOp.or IntKind.u64 (litArith BinOp.or IntKind.u64 (0 : Int) (litArith BinOp.shl IntKind.u64 (IntKind.wrap IntKind.u64 (ix x0 (1 : Int))) (0 : Int))) (litArith BinOp.shl IntKind.u64 (IntKind.wrap IntKind.u64 (ix x0 (2 : Int))) (8 : Int))) (litArith BinOp.shl IntKind.u64 (IntKind.wrap IntKind.u64 (ix x0 (3 : Int))) (16 : Int))) (litArith BinOp.shl IntKind.u64 (IntKind.wrap IntKind.u64 (ix x0 (4 : Int))) (24 : Int))) (litArith BinOp.shl IntKind.u64 (IntKind.wrap IntKind.u64 (ix x0 (5 : Int))) (32 : Int))) (litArith BinOp.shl IntKind.u64 (IntKind.wrap IntKind.u64 (ix x0 (6 : Int))) (40 : Int))) (litArith BinOp.shl IntKind.u64 (IntKind.wrap IntKind.u64 (ix x0 (7 : Int))) (48 : Int))) (litArith BinOp.shl IntKind.u64 (IntKind.wrap IntKind.u64 (ix x0 (8 : Int))) (56 : Int)), litArith BinOp.or IntKind.u64 (litArith BinOp.or IntKind.u64 (litArith BinOp.or IntKind.u64 (litArith BinOp.or IntKind.u64 (litArith BinOp.or IntKind.u64 (litArith BinOp.or IntKind.u64 (litArith BinOp.or IntKind.u64 (litArith BinOp.or IntKind.u64 (0 : Int) (litArith BinOp.shl IntKind.u64 (IntKind.wrap IntKind.u64 (ix x0 (9 : Int))) (0 : Int))) (litArith BinOp.shl IntKind.u64 (IntKind.wrap IntKind.u64 (ix x0 (10 : Int))) (8 : Int))) (litArith BinOp.shl IntKind.u64 (IntKind.wrap IntKind.u64 (ix x0 (11 : Int))) (16 : Int))) (litArith BinOp.shl IntKind.u64 (IntKind.wrap IntKind.u64 (ix x0 (12 : Int))) (24 : Int))) (litArith BinOp.shl IntKind.u64 (IntKind.wrap IntKind.u64 (ix x0 (13 : Int))) (32 : Int))) (litArith BinOp.shl IntKind.u64 (IntKind.wrap IntKind.u64 (ix x0 (14 : Int))) (40 : Int))) (litArith BinOp.shl IntKind.u64 (IntKind.wrap IntKind.u64 (ix x0 (15 : Int))) (48 : Int))) (litArith BinOp.shl IntKind.u64 (IntKind.wrap IntKind.u64 (ix x0 (16 : Int))) (56 : Int)), litArith BinOp.or IntKind.u64 (litArith BinOp.or IntKind.u64 (litArith BinOp.or IntKind.u64 (litArith BinOp.or IntKind.u64 (litArith BinOp.or IntKind.u64 (litArith BinOp.or IntKind.u64 (litArith BinOp.or IntKind.u64 (litArith BinOp.or IntKind.u64 (0 : Int) (litArith BinOp.shl IntKind.u64 (IntKind.wrap IntKind.u64 (ix x0 (17 : Int))) (0 : Int))) (litArith BinOp.shl IntKind.u64 (IntKind.wrap IntKind.u64 (ix x0 (18 : Int))) (8 : Int))) (litArith BinOp.shl IntKind.u64 (IntKind.wrap IntKind.u64 (ix x0 (19 : Int))) (16 : Int))) (litArith BinOp.shl IntKind.u64 (IntKind.wrap IntKind.u64 (ix x0 (20 : Int))) (24 : Int))) (litArith BinOp.shl IntKind.u64 (IntKind.wrap IntKind.u64 (ix x0 (21 : Int))) (32 : Int))) (litArith BinOp.shl IntKind.u64 (IntKind.wrap IntKind.u64 (ix x0 (22 : Int))) (40 : Int))) (litArith BinOp.shl IntKind.u64 (IntKind.wrap IntKind.u64 (ix x0 (23 : Int))) (48 : Int))) (litArith BinOp.shl IntKind.u64 (IntKind.wrap IntKind.u64 (ix x0 (24 : Int))) (56 : Int)))) = true) →
                              ∀ x2 : (Int × (Int × (Int × Int))),
                              (x2 = ((0 : Int), (0 : Int), (0 : Int), (0 : Int))) →
                              (True) ∧
                              ((x2 = readC x0) ∧
                               ((false = readOK x0) ∧
                                (True)))) ∧
                             (((!rightC (IntKind.wrap IntKind.i64 (ix x0 (0 : Int)), litArith BinOp.or IntKind.u64 (litArith BinOp.or IntKind.u64 (litArith BinOp.or IntKind.u64 (litArith BinOp.or IntKind.u64 (litArith BinOp.or IntKind.u64 (litArith BinOp.or IntKind.u64 (litArith BinOp.or IntKind.u64 (litArith BinOp.or IntKind.u64 (0 : Int) (litArith BinOp.shl IntKind.u64 (IntKind.wrap IntKind.u64 (ix x0 (1 : Int))) (0 : Int))) (litArith BinOp.shl IntKind.u64 (IntKind.wrap IntKind.u64 (ix x0 (2 : Int))) (8 : Int))) (litArith BinOp.shl IntKind.u64 (IntKind.wrap IntKind.u64 (ix x0 (3 : Int))) (16 : Int))) (litArith BinOp.shl IntKind.u64 (IntKind.wrap IntKind.u64 (ix x0 (4 : Int))) (24 : Int))) (litArith BinOp.shl IntKind.u64 (IntKind.wrap IntKind.u64 (ix x0 (5 : Int))) (32 : Int))) (litArith BinOp.shl IntKind.u64 (IntKind.wrap IntKind.u64 (ix x0 (6 : Int))) (40 : Int))) (litArith BinOp.shl IntKind.u64 (IntKind.wrap IntKind.u64 (ix x0 (7 : Int))) (48 : Int))) (litArith BinOp.shl IntKind.u64 (IntKind.wrap IntKind.u64 (ix x0 (8 : Int))) (56 : Int)), litArith BinOp.or IntKind.u64 (litArith BinOp.or IntKind.u64 (litArith BinOp.or IntKind.u64 (litArith BinOp.or IntKind.u64 (litArith BinOp.or IntKind.u64 (litArith BinOp.or IntKind.u64 (litArith BinOp.or IntKind.u64 (litArith BinOp.or IntKind.u64 (0 : Int) (litArith BinOp.shl IntKind.u64 (IntKind.wrap IntKind.u64 (ix x0 (9 : Int))) (0 : Int))) (litArith BinOp.shl IntKind.u64 (IntKind.wrap IntKind.u64 (ix x0 (10 : Int))) (8 : Int))) (litArith BinOp.shl IntKind.u64 (IntKind.wrap IntKind.u64 (ix x0 (11 : Int))) (16 : Int))) (litArith BinOp.shl IntKind.u64 (IntKind.wrap IntKind.u64 (ix x0 (12 : Int))) (24 : Int))) (litArith BinOp.shl IntKind.u64 (IntKind.wrap IntKind.u64 (ix x0 (13 : Int))) (32 : Int))) (litArith BinOp.shl IntKind.u64 (IntKind.wrap IntKind.u64 (ix x0 (14 : Int))) (40 : Int))) (litArith BinOp.shl IntKind.u64 (IntKind.wrap IntKind.u64 (ix x0 (15 : Int))) (48 : Int))) (litArith BinOp.shl IntKind.u64 (IntKind.wrap IntKind.u64 (ix x0 (16 : Int))) (56 : Int)), litArith BinOp.or IntKind.u64 (litArith BinOp.or IntKind.u64 (litArith BinOp.or IntKind.u64 (litArith BinOp.or IntKind.u64 (litArith BinOp.or IntKind.u64 (litArith BinOp.or IntKind.u64 (litArith BinOp.or IntKind.u64 (litArith BinOp.or IntKind.u64 (0 : Int) (litArith BinOp.shl IntKind.u64 (IntKind.wrap IntKind.u64 (ix x0 (17 : Int))) (0 : Int))) (litArith BinOp.shl IntKind.u64 (IntKind.wrap IntKind.u64 (ix x0 (18 : Int))) (8 : Int))) (litArith BinOp.shl IntKind.u64 (IntKind.wrap IntKind.u64 (ix x0 (19 : Int))) (16 : Int))) (litArith BinOp.shl IntKind.u64 (IntKind.wrap IntKind.u64 (ix x0 (20 : Int))) (24 : Int))) (litArith BinOp.shl IntKind.u64 (IntKind.wrap IntKind.u64 (ix x0 (21 : Int))) (32 : Int))) (litArith BinOp.shl IntKind.u64 (IntKind.wrap IntKind.u64 (ix x0 (22 : Int))) (40 : Int))) (litArith BinOp.shl IntKind.u64 (IntKind.wrap IntKind.u64 (ix x0 (23 : Int))) (48 : Int))) (litArith BinOp.shl IntKind.u64 (IntKind.wrap IntKind.u64 (ix x0 (24 : Int))) (56 : Int)))) = false) →
                              ∀ x3 : (Int × (Int × (Int × Int))),
                              (x3 = (IntKind.wrap IntKind.i64 (ix x0 (0 : Int)), litArith BinOp.or IntKind.u64 (litArith BinOp.or IntKind.u64 (litArith BinOp.or IntKind.u64 (litArith BinOp.or IntKind.u64 (litArith BinOp.or IntKind.u64 (litArith BinOp.or IntKind.u64 (litArith BinOp.or IntKind.u64 (litArith BinOp.or IntKind.u64 (0 : Int) (litArith BinOp.shl IntKind.u64 (IntKind.wrap IntKind.u64 (ix x0 (1 : Int))) (0 : Int))) (litArith BinOp.shl IntKind.u64 (IntKind.wrap IntKind.u64 (ix x0 (2 : Int))) (8 : Int))) (litArith BinOp.shl IntKind.u64 (IntKind.wrap IntKind.u64 (ix x0 (3 : Int))) (16 : Int))) (litArith BinOp.shl IntKind.u64 (IntKind.wrap IntKind.u64 (ix x0 (4 : Int))) (24 : Int))) (litArith BinOp.shl IntKind.u64 (IntKind.wrap IntKind.u64 (ix x0 (5 : Int))) (32 : Int))) (litArith BinOp.shl IntKind.u64 (IntKind.wrap IntKind.u64 (ix x0 (6 : Int))) (40 : Int))) (litArith BinOp.shl IntKind.u64 (IntKind.wrap IntKind.u64 (ix x0 (7 : Int))) (48 : Int))) (litArith BinOp.shl IntKind.u64 (IntKind.wrap IntKind.u64 (ix x0 (8 : Int))) (56 : Int)), litArith BinOp.or IntKind.u64 (litArith BinOp.or IntKind.u64 (litArith BinOp.or IntKind.u64 (litArith BinOp.or IntKind.u64 (litArith BinOp.or IntKind.u64 (litArith BinOp.or IntKind.u64 (litArith BinOp.or IntKind.u64 (litArith BinOp.or IntKind.u64 (0 : Int) (litArith BinOp.shl IntKind.u64 (IntKind.wrap IntKind.u64 (ix x0 (9 : Int))) (0 : Int))) (litArith BinOp.shl IntKind.u64 (IntKind.wrap IntKind.u64 (ix x0 (10 : Int))) (8 : Int))) (litArith BinOp.shl IntKind.u64 (IntKind.wrap IntKind.u64 (ix x0 (11 : Int))) (16 : Int))) (litArith BinOp.shl IntKind.u64 (IntKind.wrap IntKind.u64 (ix x0 (12 : Int))) (24 : Int))) (litArith BinOp.shl IntKind.u64 (IntKind.wrap IntKind.u64 (ix x0 (13 : Int))) (32 : Int))) (litArith BinOp.shl IntKind.u64 (IntKind.wrap IntKind.u64 (ix x0 (14 : Int))) (40 : Int))) (litArith BinOp.shl IntKind.u64 (IntKind.wrap IntKind.u64 (ix x0 (15 : Int))) (48 : Int))) (litArith BinOp.shl IntKind.u64 (IntKind.wrap IntKind.u64 (ix x0 (16 : Int))) (56 : Int)), litArith BinOp.or IntKind.u64 (litArith BinOp.or IntKind.u64 (litArith BinOp.or IntKind.u64 (litArith BinOp.or IntKind.u64 (litArith BinOp.or IntKind.u64 (litArith BinOp.or IntKind.u64 (litArith BinOp.or IntKind.u64 (litArith BinOp.or IntKind.u64 (0 : Int) (litArith BinOp.shl IntKind.u64 (IntKind.wrap IntKind.u64 (ix x0 (17 : Int))) (0 : Int))) (litArith BinOp.shl IntKind.u64 (IntKind.wrap IntKind.u64 (ix x0 (18 : Int))) (8 : Int))) (litArith BinOp.shl IntKind.u64 (IntKind.wrap IntKind.u64 (ix x0 (19 : Int))) (16 : Int))) (litArith BinOp.shl IntKind.u64 (IntKind.wrap IntKind.u64 (ix x0 (20 : Int))) (24 : Int))) (litArith BinOp.shl IntKind.u64 (IntKind.wrap IntKind.u64 (ix x0 (21 : Int))) (32 : Int))) (litArith BinOp.shl IntKind.u64 (IntKind.wrap IntKind.u64 (ix x0 (22 : Int))) (40 : Int))) (litArith BinOp.shl IntKind.u64 (IntKind.wrap IntKind.u64 (ix x0 (23 : Int))) (48 : Int))) (litArith BinOp.shl IntKind.u64 (IntKind.wrap IntKind.u64 (ix x0 (24 : Int))) (56 : Int)))) →
                              (True) ∧
                              ((x3 = readC x0) ∧
                               ((true = readOK x0) ∧
                                (True))))))))))))))))))))))))))))))) := by
  intro l hl
  have e0 := wrapI (ix l 0) (ix_of hl).1 (ix_of hl).2
  have e1 := or8 hl 1
  have e2 := or8 hl 9
  have e3 := or8 hl 17
  simp only [show (1 : Int) + 1 = 2 from rfl, show (1 : Int) + 2 = 3 from rfl, show (1 : Int) + 3 = 4 from rfl, show (1 : Int) + 4 = 5 from rfl, show (1 : Int) + 5 = 6 from rfl, show (1 : Int) + 6 = 7 from rfl, show (1 : Int) + 7 = 8 from rfl] at e1
  simp only [show (9 : Int) + 1 = 10 from rfl, show (9 : Int) + 2 = 11 from rfl, show (9 : Int) + 3 = 12 from rfl, show (9 : Int) + 4 = 13 from rfl, show (9 : Int) + 5 = 14 from rfl, show (9 : Int) + 6 = 15 from rfl, show (9 : Int) + 7 = 16 from rfl] at e2
  simp only [show (17 : Int) + 1 = 18 from rfl, show (17 : Int) + 2 = 19 from rfl, show (17 : Int) + 3 = 20 from rfl, show (17 : Int) + 4 = 21 from rfl, show (17 : Int) + 5 = 22 from rfl, show (17 : Int) + 6 = 23 from rfl, show (17 : Int) + 7 = 24 from rfl] at e3
  rw [e0, e1, e2, e3]
  refine ⟨fun h => ?_, fun h => ?_⟩
  · have hn : l.length ≠ 25 := fun h' => by simp [litCmp, h'] at h
    simp [readC, readOK, hn]
  · have hn : l.length = 25 := by simp [litCmp] at h; omega
    simp only [hn, true_and, and_true, true_implies, forall_eq, Bool.not_eq_true', Bool.not_eq_false']
    cases h : rightC (rawC l) <;> simp [rawC] at h <;> simp [readC, readOK, rawC, h, hn]
set_option maxRecDepth 10000 in
theorem read_ok : conRead.ok KK Try.prog 25 := by
  refine Con.of_vc ([]) ([]) TT_ok follows Try.func25 ?_ G4_ok (@toVC _ _ read_vc ?_)
  · kernel_rfl
  · kernel_rfl
noncomputable def G5 : List (FuncId × Con) := (25, conRead) :: G4
theorem G5_ok : GOK KK Try.prog G5 := GOK.cons (Callable.of Try.func25 (by kernel_rfl) (by kernel_rfl)) read_ok G4_ok
set_option maxRecDepth 10000 in
theorem names_vc :
  True →
  (True) ∧
  (([{ data := #[(111 : UInt8), (112 : UInt8), (101 : UInt8), (110 : UInt8)] }, { data := #[(116 : UInt8), (105 : UInt8), (109 : UInt8), (101 : UInt8), (114 : UInt8)] }, { data := #[(100 : UInt8), (117 : UInt8), (112 : UInt8)] }, { data := #[(100 : UInt8), (114 : UInt8), (111 : UInt8), (112 : UInt8)] }, { data := #[(97 : UInt8), (114 : UInt8), (109 : UInt8)] }, { data := #[(115 : UInt8), (116 : UInt8), (111 : UInt8), (112 : UInt8)] }, { data := #[(119 : UInt8), (104 : UInt8), (101 : UInt8), (110 : UInt8)] }, { data := #[(119 : UInt8), (97 : UInt8), (116 : UInt8), (99 : UInt8), (104 : UInt8)] }, { data := #[(117 : UInt8), (110 : UInt8), (119 : UInt8), (97 : UInt8), (116 : UInt8), (99 : UInt8), (104 : UInt8)] }, { data := #[(99 : UInt8), (111 : UInt8), (110 : UInt8), (100 : UInt8)] }, { data := #[(97 : UInt8), (99 : UInt8), (107 : UInt8)] }, { data := #[(117 : UInt8), (115 : UInt8), (101 : UInt8), (100 : UInt8)] }, { data := #[(110 : UInt8), (111 : UInt8), (119 : UInt8)] }] = nmLs) ∧
   (True)) := by
  intro _
  simp only [true_and, and_true]
  rfl
set_option maxRecDepth 10000 in
theorem names_ok : conNames.ok KK Try.prog 15 := by
  refine Con.of_vc ([]) ([]) TT_ok follows Try.func15 ?_ G5_ok (@toVC _ _ names_vc ?_)
  · kernel_rfl
  · kernel_rfl
noncomputable def G6 : List (FuncId × Con) := (15, conNames) :: G5
theorem G6_ok : GOK KK Try.prog G6 := GOK.cons (Callable.of Try.func15 (by kernel_rfl) (by kernel_rfl)) names_ok G5_ok

set_option maxRecDepth 10000 in
theorem args_vc :
  True →
  (True) ∧
  (([(1 : Int), (0 : Int), (2 : Int), (1 : Int), (3 : Int), (1 : Int), (1 : Int), (3 : Int), (1 : Int), (1 : Int), (2 : Int), (1 : Int), (0 : Int)] = arL) ∧
   (True)) := by
  intro _
  simp only [true_and, and_true]
  rfl
set_option maxRecDepth 10000 in
theorem args_ok : conArgs.ok KK Try.prog 16 := by
  refine Con.of_vc ([]) ([]) TT_ok follows Try.func16 ?_ G6_ok (@toVC _ _ args_vc ?_)
  · kernel_rfl
  · kernel_rfl
noncomputable def G7 : List (FuncId × Con) := (16, conArgs) :: G6
theorem G7_ok : GOK KK Try.prog G7 := GOK.cons (Callable.of Try.func16 (by kernel_rfl) (by kernel_rfl)) args_ok G6_ok

set_option maxRecDepth 10000 in
theorem kinds_vc :
  True →
  (True) ∧
  (([(0 : Int), (0 : Int), (0 : Int), (0 : Int), (1 : Int), (1 : Int), (1 : Int), (2 : Int), (2 : Int), (2 : Int), (2 : Int), (0 : Int), (0 : Int)] = kdL) ∧
   (True)) := by
  intro _
  simp only [true_and, and_true]
  rfl
set_option maxRecDepth 10000 in
theorem kinds_ok : conKinds.ok KK Try.prog 17 := by
  refine Con.of_vc ([]) ([]) TT_ok follows Try.func17 ?_ G7_ok (@toVC _ _ kinds_vc ?_)
  · kernel_rfl
  · kernel_rfl
noncomputable def G8 : List (FuncId × Con) := (17, conKinds) :: G7
theorem G8_ok : GOK KK Try.prog G8 := GOK.cons (Callable.of Try.func17 (by kernel_rfl) (by kernel_rfl)) kinds_ok G7_ok

set_option maxRecDepth 10000 in
theorem rights_vc :
  True →
  (True) ∧
  (([(0 : Int), (0 : Int), (8 : Int), (0 : Int), (1 : Int), (2 : Int), (4 : Int), (1 : Int), (2 : Int), (4 : Int), (4 : Int), (0 : Int), (0 : Int)] = rtL) ∧
   (True)) := by
  intro _
  simp only [true_and, and_true]
  rfl
set_option maxRecDepth 10000 in
theorem rights_ok : conRights.ok KK Try.prog 18 := by
  refine Con.of_vc ([]) ([]) TT_ok follows Try.func18 ?_ G8_ok (@toVC _ _ rights_vc ?_)
  · kernel_rfl
  · kernel_rfl
noncomputable def G9 : List (FuncId × Con) := (18, conRights) :: G8
theorem G9_ok : GOK KK Try.prog G9 := GOK.cons (Callable.of Try.func18 (by kernel_rfl) (by kernel_rfl)) rights_ok G8_ok

set_option maxRecDepth 10000 in
theorem rright_vc :
  ∀ x0 : (Int × (Int × (Int × Int))),
  True →
  ((litCmp BinOp.lss (Prod.fst x0) (0 : Int) = true) →
   (True) ∧
   ((false = rightC x0) ∧
    (True))) ∧
  ((litCmp BinOp.lss (Prod.fst x0) (0 : Int) = false) →
   ((litCmp BinOp.geq (Prod.fst x0) (13 : Int) = true) →
    (True) ∧
    ((false = rightC x0) ∧
     (True))) ∧
   ((litCmp BinOp.geq (Prod.fst x0) (13 : Int) = false) →
    (True) ∧
    (True →
     (((0 : Int) ≤ Prod.fst x0) ∧
      (Prod.fst x0 < (13 : Int))) ∧
     (((litCmp BinOp.geq (ix arL (Prod.fst x0)) (1 : Int) = true) →
       ((litCmp BinOp.geq (ix arL (Prod.fst x0)) (2 : Int) = true) →
        ((litCmp BinOp.geq (ix arL (Prod.fst x0)) (3 : Int) = true) →
         (True) ∧
         ((true = rightC x0) ∧
          (True))) ∧
        ((litCmp BinOp.geq (ix arL (Prod.fst x0)) (3 : Int) = false) →
         (True) ∧
         ((litCmp BinOp.eql (Prod.snd (Prod.snd (Prod.snd x0))) (0 : Int) = rightC x0) ∧
          (True)))) ∧
       ((litCmp BinOp.geq (ix arL (Prod.fst x0)) (2 : Int) = false) →
        ((litCmp BinOp.eql (Prod.fst (Prod.snd (Prod.snd x0))) (0 : Int) = true) →
         ((litCmp BinOp.geq (ix arL (Prod.fst x0)) (3 : Int) = true) →
          (True) ∧
          ((true = rightC x0) ∧
           (True))) ∧
         ((litCmp BinOp.geq (ix arL (Prod.fst x0)) (3 : Int) = false) →
          (True) ∧
          ((litCmp BinOp.eql (Prod.snd (Prod.snd (Prod.snd x0))) (0 : Int) = rightC x0) ∧
           (True)))) ∧
        ((litCmp BinOp.eql (Prod.fst (Prod.snd (Prod.snd x0))) (0 : Int) = false) →
         (True) ∧
         ((false = rightC x0) ∧
          (True))))) ∧
      ((litCmp BinOp.geq (ix arL (Prod.fst x0)) (1 : Int) = false) →
       ((litCmp BinOp.eql (Prod.fst (Prod.snd x0)) (0 : Int) = true) →
        ((litCmp BinOp.geq (ix arL (Prod.fst x0)) (2 : Int) = true) →
         ((litCmp BinOp.geq (ix arL (Prod.fst x0)) (3 : Int) = true) →
          (True) ∧
          ((true = rightC x0) ∧
           (True))) ∧
         ((litCmp BinOp.geq (ix arL (Prod.fst x0)) (3 : Int) = false) →
          (True) ∧
          ((litCmp BinOp.eql (Prod.snd (Prod.snd (Prod.snd x0))) (0 : Int) = rightC x0) ∧
           (True)))) ∧
        ((litCmp BinOp.geq (ix arL (Prod.fst x0)) (2 : Int) = false) →
         ((litCmp BinOp.eql (Prod.fst (Prod.snd (Prod.snd x0))) (0 : Int) = true) →
          ((litCmp BinOp.geq (ix arL (Prod.fst x0)) (3 : Int) = true) →
           (True) ∧
           ((true = rightC x0) ∧
            (True))) ∧
          ((litCmp BinOp.geq (ix arL (Prod.fst x0)) (3 : Int) = false) →
           (True) ∧
           ((litCmp BinOp.eql (Prod.snd (Prod.snd (Prod.snd x0))) (0 : Int) = rightC x0) ∧
            (True)))) ∧
         ((litCmp BinOp.eql (Prod.fst (Prod.snd (Prod.snd x0))) (0 : Int) = false) →
          (True) ∧
          ((false = rightC x0) ∧
           (True))))) ∧
       ((litCmp BinOp.eql (Prod.fst (Prod.snd x0)) (0 : Int) = false) →
        (True) ∧
        ((false = rightC x0) ∧
         (True)))))))) := by
  rintro ⟨op, a, b, c⟩ _
  simp only [litCmp, beq_iff_eq, beq_eq_false_iff_ne, decide_eq_true_eq, decide_eq_false_iff_not, true_and, and_true, true_implies]
  refine ⟨fun h => ?_, fun h0 => ⟨fun h => ?_, fun h1 => ⟨by omega, ?_⟩⟩⟩
  · have : isop op = false := by simp [isop]; omega
    simp [rightC, this]
  · have : isop op = false := by simp [isop]; omega
    simp [rightC, this]
  have hi := isop_of (op := op) (by omega) (by omega)
  rw [(ix_ar (op := op) (by omega) (by omega)).1]
  simp only [rightC, hi, Bool.true_and]
  by_cases k0 : 0 < ar op <;> by_cases k1 : 1 < ar op <;> by_cases k2 : 2 < ar op <;> simp [k0, k1, k2] <;> first | omega | (repeat' first | refine ⟨?_, ?_⟩ | intro _) <;> simp_all <;> omega
set_option maxRecDepth 10000 in
theorem rright_ok : conRight.ok KK Try.prog 21 := by
  refine Con.of_vc ([]) ([]) TT_ok follows Try.func21 ?_ G9_ok (@toVC _ _ rright_vc ?_)
  · kernel_rfl
  · kernel_rfl
noncomputable def G10 : List (FuncId × Con) := (21, conRight) :: G9
theorem G10_ok : GOK KK Try.prog G10 := GOK.cons (Callable.of Try.func21 (by kernel_rfl) (by kernel_rfl)) rright_ok G9_ok

set_option maxRecDepth 10000 in
theorem put_vc :
  ∀ x0 : Int,
  (inU64 x0) →
  ∀ x1 : Int,
  (x1 = litArith BinOp.rem IntKind.u64 x0 (256 : Int)) →
  ∀ x2 : Int,
  (x2 = IntKind.wrap IntKind.u8 x1) →
  ∀ x3 : List Int,
  (x3 = [] ++ [x2]) →
  ∀ x4 : Int,
  (x4 = litArith BinOp.quo IntKind.u64 x0 (256 : Int)) →
  ∀ x5 : Int,
  (x5 = litArith BinOp.rem IntKind.u64 x4 (256 : Int)) →
  ∀ x6 : Int,
  (x6 = IntKind.wrap IntKind.u8 x5) →
  ∀ x7 : List Int,
  (x7 = x3 ++ [x6]) →
  ∀ x8 : Int,
  (x8 = litArith BinOp.quo IntKind.u64 x4 (256 : Int)) →
  ∀ x9 : Int,
  (x9 = litArith BinOp.rem IntKind.u64 x8 (256 : Int)) →
  ∀ x10 : Int,
  (x10 = IntKind.wrap IntKind.u8 x9) →
  ∀ x11 : List Int,
  (x11 = x7 ++ [x10]) →
  ∀ x12 : Int,
  (x12 = litArith BinOp.quo IntKind.u64 x8 (256 : Int)) →
  ∀ x13 : Int,
  (x13 = litArith BinOp.rem IntKind.u64 x12 (256 : Int)) →
  ∀ x14 : Int,
  (x14 = IntKind.wrap IntKind.u8 x13) →
  ∀ x15 : List Int,
  (x15 = x11 ++ [x14]) →
  ∀ x16 : Int,
  (x16 = litArith BinOp.quo IntKind.u64 x12 (256 : Int)) →
  ∀ x17 : Int,
  (x17 = litArith BinOp.rem IntKind.u64 x16 (256 : Int)) →
  ∀ x18 : Int,
  (x18 = IntKind.wrap IntKind.u8 x17) →
  ∀ x19 : List Int,
  (x19 = x15 ++ [x18]) →
  ∀ x20 : Int,
  (x20 = litArith BinOp.quo IntKind.u64 x16 (256 : Int)) →
  ∀ x21 : Int,
  (x21 = litArith BinOp.rem IntKind.u64 x20 (256 : Int)) →
  ∀ x22 : Int,
  (x22 = IntKind.wrap IntKind.u8 x21) →
  ∀ x23 : List Int,
  (x23 = x19 ++ [x22]) →
  ∀ x24 : Int,
  (x24 = litArith BinOp.quo IntKind.u64 x20 (256 : Int)) →
  ∀ x25 : Int,
  (x25 = litArith BinOp.rem IntKind.u64 x24 (256 : Int)) →
  ∀ x26 : Int,
  (x26 = IntKind.wrap IntKind.u8 x25) →
  ∀ x27 : List Int,
  (x27 = x23 ++ [x26]) →
  ∀ x28 : Int,
  (x28 = litArith BinOp.quo IntKind.u64 x24 (256 : Int)) →
  ∀ x29 : Int,
  (x29 = litArith BinOp.rem IntKind.u64 x28 (256 : Int)) →
  ∀ x30 : Int,
  (x30 = IntKind.wrap IntKind.u8 x29) →
  ∀ x31 : List Int,
  (x31 = x27 ++ [x30]) →
  ∀ x32 : Int,
  (x32 = litArith BinOp.quo IntKind.u64 x28 (256 : Int)) →
  (True) ∧
  ((x31 = le8 x0) ∧
   (True)) := by
  intro x hx
  obtain ⟨h0, h1⟩ := hx
  simp only [true_and, and_true, forall_eq]
  simp (discharger := omega) only [quo256, rem256, wrap8]
  simp [le8]
  omega
set_option maxRecDepth 10000 in
theorem put_ok : conPut.ok KK Try.prog 38 := by
  refine Con.of_vc ([]) ([]) TT_ok follows Try.func38 ?_ G10_ok (@toVC _ _ put_vc ?_)
  · kernel_rfl
  · kernel_rfl
noncomputable def G11 : List (FuncId × Con) := (38, conPut) :: G10
theorem G11_ok : GOK KK Try.prog G11 := GOK.cons (Callable.of Try.func38 (by kernel_rfl) (by kernel_rfl)) put_ok G10_ok

set_option maxRecDepth 10000 in
theorem rbytes_vc :
  ∀ x0 : (Int × (Int × (Int × Int))),
  (wfC x0) →
  ∀ x1 : Int,
  (x1 = IntKind.wrap IntKind.u8 (Prod.fst x0)) →
  (inU64 (Prod.fst (Prod.snd x0))) ∧
  (True →
   ∀ x2 : List Int,
   (x2 = [x1] ++ le8 (Prod.fst (Prod.snd x0))) →
   (inU64 (Prod.fst (Prod.snd (Prod.snd x0)))) ∧
   (True →
    ∀ x3 : List Int,
    (x3 = x2 ++ le8 (Prod.fst (Prod.snd (Prod.snd x0)))) →
    (inU64 (Prod.snd (Prod.snd (Prod.snd x0)))) ∧
    (True →
     ∀ x4 : List Int,
     (x4 = x3 ++ le8 (Prod.snd (Prod.snd (Prod.snd x0)))) →
     (True) ∧
     ((x4 = callL x0) ∧
      (True))))) := by
  rintro ⟨op, a, b, c⟩ ⟨ha, hb, hc⟩
  simp only at ha hb hc
  simp only [ha, hb, hc, true_and, and_true, true_implies, forall_eq, wrap8]
  simp [callL]
set_option maxRecDepth 10000 in
theorem rbytes_ok : conRBytes.ok KK Try.prog 24 := by
  refine Con.of_vc ([]) ([]) TT_ok follows Try.func24 ?_ G11_ok (@toVC _ _ rbytes_vc ?_)
  · kernel_rfl
  · kernel_rfl
noncomputable def G12 : List (FuncId × Con) := (24, conRBytes) :: G11
theorem G12_ok : GOK KK Try.prog G12 := GOK.cons (Callable.of Try.func24 (by kernel_rfl) (by kernel_rfl)) rbytes_ok G11_ok

set_option maxRecDepth 10000 in
theorem get_vc :
  ∀ x0 : List Int,
  ((List.length x0 = (8 : Nat)) ∧
    (bytes x0)) →
  (((0 : Int) ≤ (7 : Int)) ∧
   ((7 : Int) < (↑(List.length x0) : Int))) ∧
  (∀ x1 : Int,
   (x1 = ix x0 (7 : Int)) →
   ∀ x2 : Int,
   (x2 = IntKind.wrap IntKind.u64 x1) →
   ∀ x3 : Int,
   (x3 = litArith BinOp.add IntKind.u64 (0 : Int) x2) →
   ∀ x4 : Int,
   (x4 = litArith BinOp.mul IntKind.u64 x3 (256 : Int)) →
   (((0 : Int) ≤ (6 : Int)) ∧
    ((6 : Int) < (↑(List.length x0) : Int))) ∧
   (∀ x5 : Int,
    (x5 = ix x0 (6 : Int)) →
    ∀ x6 : Int,
    (x6 = IntKind.wrap IntKind.u64 x5) →
    ∀ x7 : Int,
    (x7 = litArith BinOp.add IntKind.u64 x4 x6) →
    ∀ x8 : Int,
    (x8 = litArith BinOp.mul IntKind.u64 x7 (256 : Int)) →
    (((0 : Int) ≤ (5 : Int)) ∧
     ((5 : Int) < (↑(List.length x0) : Int))) ∧
    (∀ x9 : Int,
     (x9 = ix x0 (5 : Int)) →
     ∀ x10 : Int,
     (x10 = IntKind.wrap IntKind.u64 x9) →
     ∀ x11 : Int,
     (x11 = litArith BinOp.add IntKind.u64 x8 x10) →
     ∀ x12 : Int,
     (x12 = litArith BinOp.mul IntKind.u64 x11 (256 : Int)) →
     (((0 : Int) ≤ (4 : Int)) ∧
      ((4 : Int) < (↑(List.length x0) : Int))) ∧
     (∀ x13 : Int,
      (x13 = ix x0 (4 : Int)) →
      ∀ x14 : Int,
      (x14 = IntKind.wrap IntKind.u64 x13) →
      ∀ x15 : Int,
      (x15 = litArith BinOp.add IntKind.u64 x12 x14) →
      ∀ x16 : Int,
      (x16 = litArith BinOp.mul IntKind.u64 x15 (256 : Int)) →
      (((0 : Int) ≤ (3 : Int)) ∧
       ((3 : Int) < (↑(List.length x0) : Int))) ∧
      (∀ x17 : Int,
       (x17 = ix x0 (3 : Int)) →
       ∀ x18 : Int,
       (x18 = IntKind.wrap IntKind.u64 x17) →
       ∀ x19 : Int,
       (x19 = litArith BinOp.add IntKind.u64 x16 x18) →
       ∀ x20 : Int,
       (x20 = litArith BinOp.mul IntKind.u64 x19 (256 : Int)) →
       (((0 : Int) ≤ (2 : Int)) ∧
        ((2 : Int) < (↑(List.length x0) : Int))) ∧
       (∀ x21 : Int,
        (x21 = ix x0 (2 : Int)) →
        ∀ x22 : Int,
        (x22 = IntKind.wrap IntKind.u64 x21) →
        ∀ x23 : Int,
        (x23 = litArith BinOp.add IntKind.u64 x20 x22) →
        ∀ x24 : Int,
        (x24 = litArith BinOp.mul IntKind.u64 x23 (256 : Int)) →
        (((0 : Int) ≤ (1 : Int)) ∧
         ((1 : Int) < (↑(List.length x0) : Int))) ∧
        (∀ x25 : Int,
         (x25 = ix x0 (1 : Int)) →
         ∀ x26 : Int,
         (x26 = IntKind.wrap IntKind.u64 x25) →
         ∀ x27 : Int,
         (x27 = litArith BinOp.add IntKind.u64 x24 x26) →
         ∀ x28 : Int,
         (x28 = litArith BinOp.mul IntKind.u64 x27 (256 : Int)) →
         (((0 : Int) ≤ (0 : Int)) ∧
          ((0 : Int) < (↑(List.length x0) : Int))) ∧
         (∀ x29 : Int,
          (x29 = ix x0 (0 : Int)) →
          ∀ x30 : Int,
          (x30 = IntKind.wrap IntKind.u64 x29) →
          ∀ x31 : Int,
          (x31 = litArith BinOp.add IntKind.u64 x28 x30) →
          (True) ∧
          ((x31 = rd x0 (0 : Int)) ∧
           (True)))))))))) := by
  rintro l ⟨hn, hf⟩
  have b0 := ix_of (i := 0) hf; have b1 := ix_of (i := 1) hf; have b2 := ix_of (i := 2) hf; have b3 := ix_of (i := 3) hf
  have b4 := ix_of (i := 4) hf; have b5 := ix_of (i := 5) hf; have b6 := ix_of (i := 6) hf; have b7 := ix_of (i := 7) hf
  simp only [true_and, and_true, forall_eq, hn]
  simp (discharger := omega) only [addU, mulU, wrapU]
  simp [rd]
  omega
set_option maxRecDepth 10000 in
theorem get_ok : conGet.ok KK Try.prog 39 := by
  refine Con.of_vc ([]) ([]) TT_ok follows Try.func39 ?_ G12_ok (@toVC _ _ get_vc ?_)
  · kernel_rfl
  · kernel_rfl
noncomputable def G13 : List (FuncId × Con) := (39, conGet) :: G12
theorem G13_ok : GOK KK Try.prog G13 := GOK.cons (Callable.of Try.func39 (by kernel_rfl) (by kernel_rfl)) get_ok G12_ok

set_option maxRecDepth 10000 in
theorem rread_vc :
  ∀ x0 : List Int,
  (bytes x0) →
  ((litCmp BinOp.neq (↑(List.length x0) : Int) (25 : Int) = true) →
   ∀ x1 : (Int × (Int × (Int × Int))),
   (x1 = ((0 : Int), (0 : Int), (0 : Int), (0 : Int))) →
   (True) ∧
   ((x1 = readC x0) ∧
    ((false = readOK x0) ∧
     (True)))) ∧
  ((litCmp BinOp.neq (↑(List.length x0) : Int) (25 : Int) = false) →
   ((25 : Int) ≤ (↑(List.length x0) : Int)) ∧
   (((17 : Int) ≤ (↑(List.length x0) : Int)) ∧
    (((9 : Int) ≤ (↑(List.length x0) : Int)) ∧
     ((((0 : Int) ≤ (0 : Int)) ∧
       ((0 : Int) < (↑(List.length x0) : Int))) ∧
      ((((List.length (List.take (8 : Nat) (List.drop (1 : Nat) x0)) = (8 : Nat)) ∧
         (bytes (List.take (8 : Nat) (List.drop (1 : Nat) x0)))) ∧
        (True →
         (((List.length (List.take (8 : Nat) (List.drop (9 : Nat) x0)) = (8 : Nat)) ∧
           (bytes (List.take (8 : Nat) (List.drop (9 : Nat) x0)))) ∧
          (True →
           (((List.length (List.take (8 : Nat) (List.drop (17 : Nat) x0)) = (8 : Nat)) ∧
             (bytes (List.take (8 : Nat) (List.drop (17 : Nat) x0)))) ∧
            (True →
             (True) ∧
             (True →
              (((!rightC (IntKind.wrap IntKind.i64 (ix x0 (0 : Int)), rd (List.take (8 : Nat) (List.drop (1 : Nat) x0)) (0 : Int), rd (List.take (8 : Nat) (List.drop (9 : Nat) x0)) (0 : Int), rd (List.take (8 : Nat) (List.drop (17 : Nat) x0)) (0 : Int))) = true) →
               ∀ x2 : (Int × (Int × (Int × Int))),
               (x2 = ((0 : Int), (0 : Int), (0 : Int), (0 : Int))) →
               (True) ∧
               ((x2 = readC x0) ∧
                ((false = readOK x0) ∧
                 (True)))) ∧
              (((!rightC (IntKind.wrap IntKind.i64 (ix x0 (0 : Int)), rd (List.take (8 : Nat) (List.drop (1 : Nat) x0)) (0 : Int), rd (List.take (8 : Nat) (List.drop (9 : Nat) x0)) (0 : Int), rd (List.take (8 : Nat) (List.drop (17 : Nat) x0)) (0 : Int))) = false) →
               ∀ x3 : (Int × (Int × (Int × Int))),
               (x3 = (IntKind.wrap IntKind.i64 (ix x0 (0 : Int)), rd (List.take (8 : Nat) (List.drop (1 : Nat) x0)) (0 : Int), rd (List.take (8 : Nat) (List.drop (9 : Nat) x0)) (0 : Int), rd (List.take (8 : Nat) (List.drop (17 : Nat) x0)) (0 : Int))) →
               (True) ∧
               ((x3 = readC x0) ∧
                ((true = readOK x0) ∧
                 (True))))))) ∧
           (((List.length (List.take (8 : Nat) (List.drop (17 : Nat) x0)) = (8 : Nat)) ∧
             (bytes (List.take (8 : Nat) (List.drop (17 : Nat) x0)))) ∧
            (True →
             (True) ∧
             (True →
              (((!rightC (IntKind.wrap IntKind.i64 (ix x0 (0 : Int)), rd (List.take (8 : Nat) (List.drop (1 : Nat) x0)) (0 : Int), rd (List.take (8 : Nat) (List.drop (9 : Nat) x0)) (0 : Int), rd (List.take (8 : Nat) (List.drop (17 : Nat) x0)) (0 : Int))) = true) →
               ∀ x4 : (Int × (Int × (Int × Int))),
               (x4 = ((0 : Int), (0 : Int), (0 : Int), (0 : Int))) →
               (True) ∧
               ((x4 = readC x0) ∧
                ((false = readOK x0) ∧
                 (True)))) ∧
              (((!rightC (IntKind.wrap IntKind.i64 (ix x0 (0 : Int)), rd (List.take (8 : Nat) (List.drop (1 : Nat) x0)) (0 : Int), rd (List.take (8 : Nat) (List.drop (9 : Nat) x0)) (0 : Int), rd (List.take (8 : Nat) (List.drop (17 : Nat) x0)) (0 : Int))) = false) →
               ∀ x5 : (Int × (Int × (Int × Int))),
               (x5 = (IntKind.wrap IntKind.i64 (ix x0 (0 : Int)), rd (List.take (8 : Nat) (List.drop (1 : Nat) x0)) (0 : Int), rd (List.take (8 : Nat) (List.drop (9 : Nat) x0)) (0 : Int), rd (List.take (8 : Nat) (List.drop (17 : Nat) x0)) (0 : Int))) →
               (True) ∧
               ((x5 = readC x0) ∧
                ((true = readOK x0) ∧
                 (True))))))))) ∧
         (((List.length (List.take (8 : Nat) (List.drop (9 : Nat) x0)) = (8 : Nat)) ∧
           (bytes (List.take (8 : Nat) (List.drop (9 : Nat) x0)))) ∧
          (True →
           ((List.length (List.take (8 : Nat) (List.drop (17 : Nat) x0)) = (8 : Nat)) ∧
            (bytes (List.take (8 : Nat) (List.drop (17 : Nat) x0)))) ∧
           (True →
            (True) ∧
            (True →
             (((!rightC (IntKind.wrap IntKind.i64 (ix x0 (0 : Int)), rd (List.take (8 : Nat) (List.drop (1 : Nat) x0)) (0 : Int), rd (List.take (8 : Nat) (List.drop (9 : Nat) x0)) (0 : Int), rd (List.take (8 : Nat) (List.drop (17 : Nat) x0)) (0 : Int))) = true) →
              ∀ x6 : (Int × (Int × (Int × Int))),
              (x6 = ((0 : Int), (0 : Int), (0 : Int), (0 : Int))) →
              (True) ∧
              ((x6 = readC x0) ∧
               ((false = readOK x0) ∧
                (True)))) ∧
             (((!rightC (IntKind.wrap IntKind.i64 (ix x0 (0 : Int)), rd (List.take (8 : Nat) (List.drop (1 : Nat) x0)) (0 : Int), rd (List.take (8 : Nat) (List.drop (9 : Nat) x0)) (0 : Int), rd (List.take (8 : Nat) (List.drop (17 : Nat) x0)) (0 : Int))) = false) →
              ∀ x7 : (Int × (Int × (Int × Int))),
              (x7 = (IntKind.wrap IntKind.i64 (ix x0 (0 : Int)), rd (List.take (8 : Nat) (List.drop (1 : Nat) x0)) (0 : Int), rd (List.take (8 : Nat) (List.drop (9 : Nat) x0)) (0 : Int), rd (List.take (8 : Nat) (List.drop (17 : Nat) x0)) (0 : Int))) →
              (True) ∧
              ((x7 = readC x0) ∧
               ((true = readOK x0) ∧
                (True)))))))))) ∧
       (((List.length (List.take (8 : Nat) (List.drop (1 : Nat) x0)) = (8 : Nat)) ∧
         (bytes (List.take (8 : Nat) (List.drop (1 : Nat) x0)))) ∧
        (True →
         ((List.length (List.take (8 : Nat) (List.drop (9 : Nat) x0)) = (8 : Nat)) ∧
          (bytes (List.take (8 : Nat) (List.drop (9 : Nat) x0)))) ∧
         (True →
          ((List.length (List.take (8 : Nat) (List.drop (17 : Nat) x0)) = (8 : Nat)) ∧
           (bytes (List.take (8 : Nat) (List.drop (17 : Nat) x0)))) ∧
          (True →
           (True) ∧
           (True →
            (((!rightC (IntKind.wrap IntKind.i64 (ix x0 (0 : Int)), rd (List.take (8 : Nat) (List.drop (1 : Nat) x0)) (0 : Int), rd (List.take (8 : Nat) (List.drop (9 : Nat) x0)) (0 : Int), rd (List.take (8 : Nat) (List.drop (17 : Nat) x0)) (0 : Int))) = true) →
             ∀ x8 : (Int × (Int × (Int × Int))),
             (x8 = ((0 : Int), (0 : Int), (0 : Int), (0 : Int))) →
             (True) ∧
             ((x8 = readC x0) ∧
              ((false = readOK x0) ∧
               (True)))) ∧
            (((!rightC (IntKind.wrap IntKind.i64 (ix x0 (0 : Int)), rd (List.take (8 : Nat) (List.drop (1 : Nat) x0)) (0 : Int), rd (List.take (8 : Nat) (List.drop (9 : Nat) x0)) (0 : Int), rd (List.take (8 : Nat) (List.drop (17 : Nat) x0)) (0 : Int))) = false) →
             ∀ x9 : (Int × (Int × (Int × Int))),
             (x9 = (IntKind.wrap IntKind.i64 (ix x0 (0 : Int)), rd (List.take (8 : Nat) (List.drop (1 : Nat) x0)) (0 : Int), rd (List.take (8 : Nat) (List.drop (9 : Nat) x0)) (0 : Int), rd (List.take (8 : Nat) (List.drop (17 : Nat) x0)) (0 : Int))) →
             (True) ∧
             ((x9 = readC x0) ∧
              ((true = readOK x0) ∧
               (True)))))))))))))) := by
  intro l hl
  have e0 := wrapI (ix l 0) (ix_of hl).1 (ix_of hl).2
  rw [e0]
  refine ⟨fun h => ?_, fun h => ?_⟩
  · have hn : l.length ≠ 25 := fun h' => by simp [litCmp, h'] at h
    simp [readC, readOK, hn]
  · have hn : l.length = 25 := by simp [litCmp] at h; omega
    have cut : ∀ k : Nat, k + 8 ≤ 25 → (List.take 8 (List.drop k l)).length = 8 ∧ bytes (List.take 8 (List.drop k l)) ∧ rd (List.take 8 (List.drop k l)) 0 = rd l k := fun k hk =>
      ⟨by simp [hn]; omega, fun x hx => hl x (List.mem_of_mem_drop (List.mem_of_mem_take hx)), rd_cut (by omega)⟩
    obtain ⟨p1, p2, p3⟩ := cut 1 (by omega)
    obtain ⟨q1, q2, q3⟩ := cut 9 (by omega)
    obtain ⟨r1, r2, r3⟩ := cut 17 (by omega)
    have key : ∀ b : Bool, (rightC (ix l 0, rd l 1, rd l 9, rd l 17)) = b → readOK l = b ∧ readC l = if b then (ix l 0, rd l 1, rd l 9, rd l 17) else (0, 0, 0, 0) := fun b hb => by simp [readC, readOK, rawC, hb, hn]
    simp only [p1, p2, p3, q1, q2, q3, r1, r2, r3, hn, true_and, and_true, true_implies, forall_eq, Bool.not_eq_true', Bool.not_eq_false', and_self]
    have k3 : (rightC (ix l 0, rd l (1 : Nat), rd l (9 : Nat), rd l (17 : Nat)) = false → ((0 : Int), (0 : Int), (0 : Int), (0 : Int)) = readC l ∧ false = readOK l) ∧ (rightC (ix l 0, rd l (1 : Nat), rd l (9 : Nat), rd l (17 : Nat)) = true → (ix l 0, rd l (1 : Nat), rd l (9 : Nat), rd l (17 : Nat)) = readC l ∧ true = readOK l) := by
      refine ⟨fun h => ?_, fun h => ?_⟩ <;> obtain ⟨k1, k2⟩ := key _ h <;> rw [k1, k2] <;> simp
    exact ⟨by omega, by omega, by omega, ⟨by omega, by omega⟩, k3⟩
set_option maxRecDepth 10000 in
theorem rread_ok : conRead.ok KK Try.prog 26 := by
  refine Con.of_vc ([]) ([]) TT_ok follows Try.func26 ?_ G13_ok (@toVC _ _ rread_vc ?_)
  · kernel_rfl
  · kernel_rfl
noncomputable def G14 : List (FuncId × Con) := (26, conRead) :: G13
theorem G14_ok : GOK KK Try.prog G14 := GOK.cons (Callable.of Try.func26 (by kernel_rfl) (by kernel_rfl)) rread_ok G13_ok

set_option maxRecDepth 10000 in
theorem same_vc :
  ∀ x0 : List Int,
  ∀ x1 : List Int,
  True →
  (True) ∧
  ((same (mkS x0) (mkS x1) = same (mkS x0) (mkS x1)) ∧
   (True)) := by
  intro a b _
  exact ⟨trivial, rfl, trivial⟩
set_option maxRecDepth 10000 in
theorem same_ok : conSame.ok KK Try.prog 23 := by
  refine Con.of_vc ([]) ([]) TT_ok follows Try.func23 ?_ G14_ok (@toVC _ _ same_vc ?_)
  · kernel_rfl
  · kernel_rfl
noncomputable def G15 : List (FuncId × Con) := (23, conSame) :: G14
theorem G15_ok : GOK KK Try.prog G15 := GOK.cons (Callable.of Try.func23 (by kernel_rfl) (by kernel_rfl)) same_ok G14_ok
end Go.Proofs.Ytkhbodngiodklaa
