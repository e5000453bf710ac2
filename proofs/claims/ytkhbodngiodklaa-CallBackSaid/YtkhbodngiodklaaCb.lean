/- What the functions of package call do. -/
import Derived.Test.YtkhbodngiodklaaCa
set_option linter.all false
namespace Go.Proofs.Ytkhbodngiodklaa
open Go Go.Dx
noncomputable def G0 : List (FuncId × Con) := []
theorem G0_ok : GOK Try.prog G0 := GOK.nil

set_option maxRecDepth 10000 in
theorem other_vc :
  ∀ x0 : Int,
  (6 : Int) < x0 ∨ x0 < (0 : Int) →
  (litCmp BinOp.eql x0 (7 : Int) = true →
   (True) ∧
   (({ data := #[(119 : UInt8), (97 : UInt8), (116 : UInt8), (99 : UInt8), (104 : UInt8)] } = nm x0) ∧
    (((3 : Int) = ar x0) ∧
     (((2 : Int) = kd x0) ∧
      (((1 : Int) = rt x0) ∧
       ((true = isop x0) ∧
        (True))))))) ∧
  (litCmp BinOp.eql x0 (7 : Int) = false →
   (litCmp BinOp.eql x0 (8 : Int) = true →
    (True) ∧
    (({ data := #[(117 : UInt8), (110 : UInt8), (119 : UInt8), (97 : UInt8), (116 : UInt8), (99 : UInt8), (104 : UInt8)] } = nm x0) ∧
     (((1 : Int) = ar x0) ∧
      (((2 : Int) = kd x0) ∧
       (((2 : Int) = rt x0) ∧
        ((true = isop x0) ∧
         (True))))))) ∧
   (litCmp BinOp.eql x0 (8 : Int) = false →
    (litCmp BinOp.eql x0 (9 : Int) = true →
     (True) ∧
     (({ data := #[(99 : UInt8), (111 : UInt8), (110 : UInt8), (100 : UInt8)] } = nm x0) ∧
      (((1 : Int) = ar x0) ∧
       (((2 : Int) = kd x0) ∧
        (((4 : Int) = rt x0) ∧
         ((true = isop x0) ∧
          (True))))))) ∧
    (litCmp BinOp.eql x0 (9 : Int) = false →
     (litCmp BinOp.eql x0 (10 : Int) = true →
      (True) ∧
      (({ data := #[(97 : UInt8), (99 : UInt8), (107 : UInt8)] } = nm x0) ∧
       (((2 : Int) = ar x0) ∧
        (((2 : Int) = kd x0) ∧
         (((4 : Int) = rt x0) ∧
          ((true = isop x0) ∧
           (True))))))) ∧
     (litCmp BinOp.eql x0 (10 : Int) = false →
      (litCmp BinOp.eql x0 (11 : Int) = true →
       (True) ∧
       (({ data := #[(117 : UInt8), (115 : UInt8), (101 : UInt8), (100 : UInt8)] } = nm x0) ∧
        (((1 : Int) = ar x0) ∧
         (((0 : Int) = kd x0) ∧
          (((0 : Int) = rt x0) ∧
           ((true = isop x0) ∧
            (True))))))) ∧
      (litCmp BinOp.eql x0 (11 : Int) = false →
       (litCmp BinOp.eql x0 (12 : Int) = true →
        (True) ∧
        (({ data := #[(110 : UInt8), (111 : UInt8), (119 : UInt8)] } = nm x0) ∧
         (((0 : Int) = ar x0) ∧
          (((0 : Int) = kd x0) ∧
           (((0 : Int) = rt x0) ∧
            ((true = isop x0) ∧
             (True))))))) ∧
       (litCmp BinOp.eql x0 (12 : Int) = false →
        (True) ∧
        (({ data := #[] } = nm x0) ∧
         (((0 : Int) = ar x0) ∧
          (((0 : Int) = kd x0) ∧
           (((0 : Int) = rt x0) ∧
            ((false = isop x0) ∧
             (True)))))))))))) := by
  intro x0 h
  simp only [litCmp, beq_iff_eq, beq_eq_false_iff_ne, true_and, and_true]
  refine ⟨fun e => ?_, fun e1 => ⟨fun e => ?_, fun e2 => ⟨fun e => ?_, fun e3 => ⟨fun e => ?_, fun e4 => ⟨fun e => ?_, fun e5 => ⟨fun e => ?_, fun e6 => ?_⟩⟩⟩⟩⟩⟩
  all_goals first | (subst e; decide) | skip
  obtain ⟨q1, q2, q3, q4⟩ := out_op (op := x0) (by omega)
  refine ⟨q1.symm, q2.symm, q3.symm, q4.symm, ?_⟩
  simp [isop]; omega
set_option maxRecDepth 10000 in
theorem other_ok : conOther.ok Try.prog 37 := by
  refine Con.of_vc ([]) ([]) TT_ok follows Try.func37 ?_ G0_ok (@toVC _ _ other_vc ?_)
  · kernel_rfl
  · kernel_rfl
noncomputable def G1 : List (FuncId × Con) := (37, conOther) :: G0
theorem G1_ok : GOK Try.prog G1 := GOK.cons (Callable.of Try.func37 (by kernel_rfl) (by kernel_rfl)) other_ok rfl G0_ok

set_option maxRecDepth 10000 in
theorem of_vc :
  ∀ x0 : Int,
  True →
  (litCmp BinOp.eql x0 (0 : Int) = true →
   (True) ∧
   (({ data := #[(111 : UInt8), (112 : UInt8), (101 : UInt8), (110 : UInt8)] } = nm x0) ∧
    (((1 : Int) = ar x0) ∧
     (((0 : Int) = kd x0) ∧
      (((0 : Int) = rt x0) ∧
       ((true = isop x0) ∧
        (True))))))) ∧
  (litCmp BinOp.eql x0 (0 : Int) = false →
   (litCmp BinOp.eql x0 (1 : Int) = true →
    (True) ∧
    (({ data := #[(116 : UInt8), (105 : UInt8), (109 : UInt8), (101 : UInt8), (114 : UInt8)] } = nm x0) ∧
     (((0 : Int) = ar x0) ∧
      (((0 : Int) = kd x0) ∧
       (((0 : Int) = rt x0) ∧
        ((true = isop x0) ∧
         (True))))))) ∧
   (litCmp BinOp.eql x0 (1 : Int) = false →
    (litCmp BinOp.eql x0 (2 : Int) = true →
     (True) ∧
     (({ data := #[(100 : UInt8), (117 : UInt8), (112 : UInt8)] } = nm x0) ∧
      (((2 : Int) = ar x0) ∧
       (((0 : Int) = kd x0) ∧
        (((8 : Int) = rt x0) ∧
         ((true = isop x0) ∧
          (True))))))) ∧
    (litCmp BinOp.eql x0 (2 : Int) = false →
     (litCmp BinOp.eql x0 (3 : Int) = true →
      (True) ∧
      (({ data := #[(100 : UInt8), (114 : UInt8), (111 : UInt8), (112 : UInt8)] } = nm x0) ∧
       (((1 : Int) = ar x0) ∧
        (((0 : Int) = kd x0) ∧
         (((0 : Int) = rt x0) ∧
          ((true = isop x0) ∧
           (True))))))) ∧
     (litCmp BinOp.eql x0 (3 : Int) = false →
      (litCmp BinOp.eql x0 (4 : Int) = true →
       (True) ∧
       (({ data := #[(97 : UInt8), (114 : UInt8), (109 : UInt8)] } = nm x0) ∧
        (((3 : Int) = ar x0) ∧
         (((1 : Int) = kd x0) ∧
          (((1 : Int) = rt x0) ∧
           ((true = isop x0) ∧
            (True))))))) ∧
      (litCmp BinOp.eql x0 (4 : Int) = false →
       (litCmp BinOp.eql x0 (5 : Int) = true →
        (True) ∧
        (({ data := #[(115 : UInt8), (116 : UInt8), (111 : UInt8), (112 : UInt8)] } = nm x0) ∧
         (((1 : Int) = ar x0) ∧
          (((1 : Int) = kd x0) ∧
           (((2 : Int) = rt x0) ∧
            ((true = isop x0) ∧
             (True))))))) ∧
       (litCmp BinOp.eql x0 (5 : Int) = false →
        (litCmp BinOp.eql x0 (6 : Int) = true →
         (True) ∧
         (({ data := #[(119 : UInt8), (104 : UInt8), (101 : UInt8), (110 : UInt8)] } = nm x0) ∧
          (((1 : Int) = ar x0) ∧
           (((1 : Int) = kd x0) ∧
            (((4 : Int) = rt x0) ∧
             ((true = isop x0) ∧
              (True))))))) ∧
        (litCmp BinOp.eql x0 (6 : Int) = false →
         ((6 : Int) < x0 ∨ x0 < (0 : Int)) ∧
         (True →
          (True) ∧
          ((nm x0 = nm x0) ∧
           ((ar x0 = ar x0) ∧
            ((kd x0 = kd x0) ∧
             ((rt x0 = rt x0) ∧
              ((isop x0 = isop x0) ∧
               (True)))))))))))))) := by
  intro x0 _
  simp only [litCmp, beq_iff_eq, beq_eq_false_iff_ne, true_and, and_true, true_implies]
  refine ⟨fun e => ?_, fun e0 => ⟨fun e => ?_, fun e1 => ⟨fun e => ?_, fun e2 => ⟨fun e => ?_, fun e3 => ⟨fun e => ?_, fun e4 => ⟨fun e => ?_, fun e5 => ⟨fun e => ?_, fun e6 => ?_⟩⟩⟩⟩⟩⟩⟩
  all_goals first | (subst e; decide) | skip
  omega
set_option maxRecDepth 10000 in
theorem of_ok : conOf.ok Try.prog 14 := by
  refine Con.of_vc ([]) ([]) TT_ok follows Try.func14 ?_ G1_ok (@toVC _ _ of_vc ?_)
  · kernel_rfl
  · kernel_rfl
noncomputable def G2 : List (FuncId × Con) := (14, conOf) :: G1
theorem G2_ok : GOK Try.prog G2 := GOK.cons (Callable.of Try.func14 (by kernel_rfl) (by kernel_rfl)) of_ok rfl G1_ok

set_option maxRecDepth 10000 in
theorem right_vc :
  ∀ x0 : Int,
  ∀ x1 : Int,
  ∀ x2 : Int,
  ∀ x3 : Int,
  True →
  (True) ∧
  (True →
   (isop x0 = true →
    (litCmp BinOp.gtr (ar x0) (0 : Int) = true →
     (litCmp BinOp.gtr (ar x0) (1 : Int) = true →
      (litCmp BinOp.gtr (ar x0) (2 : Int) = true →
       (True) ∧
       ((true = rightB x0 x1 x2 x3) ∧
        (True))) ∧
      (litCmp BinOp.gtr (ar x0) (2 : Int) = false →
       (True) ∧
       ((litCmp BinOp.eql x3 (0 : Int) = rightB x0 x1 x2 x3) ∧
        (True)))) ∧
     (litCmp BinOp.gtr (ar x0) (1 : Int) = false →
      (litCmp BinOp.eql x2 (0 : Int) = true →
       (litCmp BinOp.gtr (ar x0) (2 : Int) = true →
        (True) ∧
        ((true = rightB x0 x1 x2 x3) ∧
         (True))) ∧
       (litCmp BinOp.gtr (ar x0) (2 : Int) = false →
        (True) ∧
        ((litCmp BinOp.eql x3 (0 : Int) = rightB x0 x1 x2 x3) ∧
         (True)))) ∧
      (litCmp BinOp.eql x2 (0 : Int) = false →
       (True) ∧
       ((false = rightB x0 x1 x2 x3) ∧
        (True))))) ∧
    (litCmp BinOp.gtr (ar x0) (0 : Int) = false →
     (litCmp BinOp.eql x1 (0 : Int) = true →
      (litCmp BinOp.gtr (ar x0) (1 : Int) = true →
       (litCmp BinOp.gtr (ar x0) (2 : Int) = true →
        (True) ∧
        ((true = rightB x0 x1 x2 x3) ∧
         (True))) ∧
       (litCmp BinOp.gtr (ar x0) (2 : Int) = false →
        (True) ∧
        ((litCmp BinOp.eql x3 (0 : Int) = rightB x0 x1 x2 x3) ∧
         (True)))) ∧
      (litCmp BinOp.gtr (ar x0) (1 : Int) = false →
       (litCmp BinOp.eql x2 (0 : Int) = true →
        (litCmp BinOp.gtr (ar x0) (2 : Int) = true →
         (True) ∧
         ((true = rightB x0 x1 x2 x3) ∧
          (True))) ∧
        (litCmp BinOp.gtr (ar x0) (2 : Int) = false →
         (True) ∧
         ((litCmp BinOp.eql x3 (0 : Int) = rightB x0 x1 x2 x3) ∧
          (True)))) ∧
       (litCmp BinOp.eql x2 (0 : Int) = false →
        (True) ∧
        ((false = rightB x0 x1 x2 x3) ∧
         (True))))) ∧
     (litCmp BinOp.eql x1 (0 : Int) = false →
      (True) ∧
      ((false = rightB x0 x1 x2 x3) ∧
       (True))))) ∧
   (isop x0 = false →
    (True) ∧
    ((false = rightB x0 x1 x2 x3) ∧
     (True)))) := by
  intro x0 x1 x2 x3 _
  simp only [litCmp, beq_iff_eq, beq_eq_false_iff_ne, decide_eq_true_eq, decide_eq_false_iff_not, true_and, and_true, true_implies]
  repeat' first | refine ⟨?_, ?_⟩ | intro _
  all_goals
    simp_all [rightB]
    try omega
set_option maxRecDepth 10000 in
theorem right_ok : conRight.ok Try.prog 20 := by
  refine Con.of_vc ([]) ([]) TT_ok follows Try.func20 ?_ G2_ok (@toVC _ _ right_vc ?_)
  · kernel_rfl
  · kernel_rfl
noncomputable def G3 : List (FuncId × Con) := (20, conRight) :: G2
theorem G3_ok : GOK Try.prog G3 := GOK.cons (Callable.of Try.func20 (by kernel_rfl) (by kernel_rfl)) right_ok rfl G2_ok

set_option maxRecDepth 10000 in
theorem named_vc :
  ∀ x0 : ByteArray,
  True →
  (True) ∧
  (True →
   (seqS (nm (0 : Int)) x0 = true →
    (True) ∧
    (((0 : Int) = Prod.fst (named x0)) ∧
     ((true = Prod.snd (named x0)) ∧
      (True)))) ∧
   (seqS (nm (0 : Int)) x0 = false →
    (True) ∧
    (True →
     (seqS (nm (1 : Int)) x0 = true →
      (True) ∧
      (((1 : Int) = Prod.fst (named x0)) ∧
       ((true = Prod.snd (named x0)) ∧
        (True)))) ∧
     (seqS (nm (1 : Int)) x0 = false →
      (True) ∧
      (True →
       (seqS (nm (2 : Int)) x0 = true →
        (True) ∧
        (((2 : Int) = Prod.fst (named x0)) ∧
         ((true = Prod.snd (named x0)) ∧
          (True)))) ∧
       (seqS (nm (2 : Int)) x0 = false →
        (True) ∧
        (True →
         (seqS (nm (3 : Int)) x0 = true →
          (True) ∧
          (((3 : Int) = Prod.fst (named x0)) ∧
           ((true = Prod.snd (named x0)) ∧
            (True)))) ∧
         (seqS (nm (3 : Int)) x0 = false →
          (True) ∧
          (True →
           (seqS (nm (4 : Int)) x0 = true →
            (True) ∧
            (((4 : Int) = Prod.fst (named x0)) ∧
             ((true = Prod.snd (named x0)) ∧
              (True)))) ∧
           (seqS (nm (4 : Int)) x0 = false →
            (True) ∧
            (True →
             (seqS (nm (5 : Int)) x0 = true →
              (True) ∧
              (((5 : Int) = Prod.fst (named x0)) ∧
               ((true = Prod.snd (named x0)) ∧
                (True)))) ∧
             (seqS (nm (5 : Int)) x0 = false →
              (True) ∧
              (True →
               (seqS (nm (6 : Int)) x0 = true →
                (True) ∧
                (((6 : Int) = Prod.fst (named x0)) ∧
                 ((true = Prod.snd (named x0)) ∧
                  (True)))) ∧
               (seqS (nm (6 : Int)) x0 = false →
                (True) ∧
                (True →
                 (seqS (nm (7 : Int)) x0 = true →
                  (True) ∧
                  (((7 : Int) = Prod.fst (named x0)) ∧
                   ((true = Prod.snd (named x0)) ∧
                    (True)))) ∧
                 (seqS (nm (7 : Int)) x0 = false →
                  (True) ∧
                  (True →
                   (seqS (nm (8 : Int)) x0 = true →
                    (True) ∧
                    (((8 : Int) = Prod.fst (named x0)) ∧
                     ((true = Prod.snd (named x0)) ∧
                      (True)))) ∧
                   (seqS (nm (8 : Int)) x0 = false →
                    (True) ∧
                    (True →
                     (seqS (nm (9 : Int)) x0 = true →
                      (True) ∧
                      (((9 : Int) = Prod.fst (named x0)) ∧
                       ((true = Prod.snd (named x0)) ∧
                        (True)))) ∧
                     (seqS (nm (9 : Int)) x0 = false →
                      (True) ∧
                      (True →
                       (seqS (nm (10 : Int)) x0 = true →
                        (True) ∧
                        (((10 : Int) = Prod.fst (named x0)) ∧
                         ((true = Prod.snd (named x0)) ∧
                          (True)))) ∧
                       (seqS (nm (10 : Int)) x0 = false →
                        (True) ∧
                        (True →
                         (seqS (nm (11 : Int)) x0 = true →
                          (True) ∧
                          (((11 : Int) = Prod.fst (named x0)) ∧
                           ((true = Prod.snd (named x0)) ∧
                            (True)))) ∧
                         (seqS (nm (11 : Int)) x0 = false →
                          (True) ∧
                          (True →
                           (seqS (nm (12 : Int)) x0 = true →
                            (True) ∧
                            (((12 : Int) = Prod.fst (named x0)) ∧
                             ((true = Prod.snd (named x0)) ∧
                              (True)))) ∧
                           (seqS (nm (12 : Int)) x0 = false →
                            (True) ∧
                            (((0 : Int) = Prod.fst (named x0)) ∧
                             ((false = Prod.snd (named x0)) ∧
                              (True))))))))))))))))))))))))))))) := by
  intro x0 _
  simp only [true_and, and_true, true_implies]
  repeat' first | refine ⟨?_, ?_⟩ | intro _
  all_goals simp_all [named, namedL, eqs, seqS]
set_option maxRecDepth 10000 in
theorem named_ok : conNamed.ok Try.prog 19 := by
  refine Con.of_vc ([]) ([]) TT_ok follows Try.func19 ?_ G3_ok (@toVC _ _ named_vc ?_)
  · kernel_rfl
  · kernel_rfl
noncomputable def G4 : List (FuncId × Con) := (19, conNamed) :: G3
theorem G4_ok : GOK Try.prog G4 := GOK.cons (Callable.of Try.func19 (by kernel_rfl) (by kernel_rfl)) named_ok rfl G3_ok

set_option maxRecDepth 10000 in
theorem bytes_vc :
  ∀ x0 : Int,
  ∀ x1 : Int,
  ∀ x2 : Int,
  ∀ x3 : Int,
  True →
  (True) ∧
  (True →
   ((!rightB x0 x1 x2 x3) = true →
    (True) ∧
    ((false = rightB x0 x1 x2 x3) ∧
     (((0 : Int) = callN x0 x1 x2 x3) ∧
      (True)))) ∧
   ((!rightB x0 x1 x2 x3) = false →
    (True) ∧
    ((true = rightB x0 x1 x2 x3) ∧
     (((25 : Int) = callN x0 x1 x2 x3) ∧
      ((∀ x4 : Nat,
        x4 < (25 : Nat) →
        List.getD [IntKind.wrap IntKind.u8 x0, IntKind.wrap IntKind.u8 (litArith BinOp.shr IntKind.u64 x1 (0 : Int)), IntKind.wrap IntKind.u8 (litArith BinOp.shr IntKind.u64 x1 (8 : Int)), IntKind.wrap IntKind.u8 (litArith BinOp.shr IntKind.u64 x1 (16 : Int)), IntKind.wrap IntKind.u8 (litArith BinOp.shr IntKind.u64 x1 (24 : Int)), IntKind.wrap IntKind.u8 (litArith BinOp.shr IntKind.u64 x1 (32 : Int)), IntKind.wrap IntKind.u8 (litArith BinOp.shr IntKind.u64 x1 (40 : Int)), IntKind.wrap IntKind.u8 (litArith BinOp.shr IntKind.u64 x1 (48 : Int)), IntKind.wrap IntKind.u8 (litArith BinOp.shr IntKind.u64 x1 (56 : Int)), IntKind.wrap IntKind.u8 (litArith BinOp.shr IntKind.u64 x2 (0 : Int)), IntKind.wrap IntKind.u8 (litArith BinOp.shr IntKind.u64 x2 (8 : Int)), IntKind.wrap IntKind.u8 (litArith BinOp.shr IntKind.u64 x2 (16 : Int)), IntKind.wrap IntKind.u8 (litArith BinOp.shr IntKind.u64 x2 (24 : Int)), IntKind.wrap IntKind.u8 (litArith BinOp.shr IntKind.u64 x2 (32 : Int)), IntKind.wrap IntKind.u8 (litArith BinOp.shr IntKind.u64 x2 (40 : Int)), IntKind.wrap IntKind.u8 (litArith BinOp.shr IntKind.u64 x2 (48 : Int)), IntKind.wrap IntKind.u8 (litArith BinOp.shr IntKind.u64 x2 (56 : Int)), IntKind.wrap IntKind.u8 (litArith BinOp.shr IntKind.u64 x3 (0 : Int)), IntKind.wrap IntKind.u8 (litArith BinOp.shr IntKind.u64 x3 (8 : Int)), IntKind.wrap IntKind.u8 (litArith BinOp.shr IntKind.u64 x3 (16 : Int)), IntKind.wrap IntKind.u8 (litArith BinOp.shr IntKind.u64 x3 (24 : Int)), IntKind.wrap IntKind.u8 (litArith BinOp.shr IntKind.u64 x3 (32 : Int)), IntKind.wrap IntKind.u8 (litArith BinOp.shr IntKind.u64 x3 (40 : Int)), IntKind.wrap IntKind.u8 (litArith BinOp.shr IntKind.u64 x3 (48 : Int)), IntKind.wrap IntKind.u8 (litArith BinOp.shr IntKind.u64 x3 (56 : Int))] x4 (0 : Int) = callF x0 x1 x2 x3 x4) ∧
       (True)))))) := by
  intro x0 x1 x2 x3 _
  simp only [true_and, and_true, true_implies]
  refine ⟨fun h => ?_, fun h => ?_⟩
  · have h' : rightB x0 x1 x2 x3 = false := by simpa using h
    simp [h', callN]
  · have h' : rightB x0 x1 x2 x3 = true := by simpa using h
    refine ⟨h'.symm, by simp [callN, h'], fun i _ => ?_⟩
    unfold callF
    congr 1
    simp [callL, le8, byteAt, litArith, List.range, List.range.loop, IntKind.wrap, IntKind.bits, IntKind.signed, Int.fdiv_eq_ediv_of_nonneg]
set_option maxRecDepth 10000 in
theorem bytes_ok : conBytes.ok Try.prog 22 := by
  refine Con.of_vc ([]) ([]) TT_ok follows Try.func22 ?_ G4_ok (@toVC _ _ bytes_vc ?_)
  · kernel_rfl
  · kernel_rfl
noncomputable def G5 : List (FuncId × Con) := (22, conBytes) :: G4
theorem G5_ok : GOK Try.prog G5 := GOK.cons (Callable.of Try.func22 (by kernel_rfl) (by kernel_rfl)) bytes_ok rfl G4_ok

set_option maxRecDepth 10000 in
theorem read_vc :
  ∀ x0 : Int,
  ∀ x1 : Nat → Int,
  (∀ x2 : Nat,
    ↑x2 < x0 →
    ((0 : Int) ≤ x1 x2) ∧
    (x1 x2 < (256 : Int))) →
  (litCmp BinOp.neq x0 (25 : Int) = true →
   (True) ∧
   (((0 : Int) = readI x0 x1 (x1 (0 : Nat))) ∧
    (((0 : Int) = readI x0 x1 (rd x1 (1 : Nat))) ∧
     (((0 : Int) = readI x0 x1 (rd x1 (9 : Nat))) ∧
      (((0 : Int) = readI x0 x1 (rd x1 (17 : Nat))) ∧
       ((false = readOK x0 x1) ∧
        (True))))))) ∧
  (litCmp BinOp.neq x0 (25 : Int) = false →
   (((0 : Int) ≤ (0 : Int)) ∧
    ((0 : Int) < x0)) ∧
   ((((0 : Int) ≤ (24 : Int)) ∧
     ((24 : Int) < x0)) ∧
    ((((0 : Int) ≤ (23 : Int)) ∧
      ((23 : Int) < x0)) ∧
     ((((0 : Int) ≤ (22 : Int)) ∧
       ((22 : Int) < x0)) ∧
      ((((0 : Int) ≤ (21 : Int)) ∧
        ((21 : Int) < x0)) ∧
       ((((0 : Int) ≤ (20 : Int)) ∧
         ((20 : Int) < x0)) ∧
        ((((0 : Int) ≤ (19 : Int)) ∧
          ((19 : Int) < x0)) ∧
         ((((0 : Int) ≤ (18 : Int)) ∧
           ((18 : Int) < x0)) ∧
          ((((0 : Int) ≤ (17 : Int)) ∧
            ((17 : Int) < x0)) ∧
           ((((0 : Int) ≤ (16 : Int)) ∧
             ((16 : Int) < x0)) ∧
            ((((0 : Int) ≤ (15 : Int)) ∧
              ((15 : Int) < x0)) ∧
             ((((0 : Int) ≤ (14 : Int)) ∧
               ((14 : Int) < x0)) ∧
              ((((0 : Int) ≤ (13 : Int)) ∧
                ((13 : Int) < x0)) ∧
               ((((0 : Int) ≤ (12 : Int)) ∧
                 ((12 : Int) < x0)) ∧
                ((((0 : Int) ≤ (11 : Int)) ∧
                  ((11 : Int) < x0)) ∧
                 ((((0 : Int) ≤ (10 : Int)) ∧
                   ((10 : Int) < x0)) ∧
                  ((((0 : Int) ≤ (9 : Int)) ∧
                    ((9 : Int) < x0)) ∧
                   ((((0 : Int) ≤ (8 : Int)) ∧
                     ((8 : Int) < x0)) ∧
                    ((((0 : Int) ≤ (7 : Int)) ∧
                      ((7 : Int) < x0)) ∧
                     ((((0 : Int) ≤ (6 : Int)) ∧
                       ((6 : Int) < x0)) ∧
                      ((((0 : Int) ≤ (5 : Int)) ∧
                        ((5 : Int) < x0)) ∧
                       ((((0 : Int) ≤ (4 : Int)) ∧
                         ((4 : Int) < x0)) ∧
                        ((((0 : Int) ≤ (3 : Int)) ∧
                          ((3 : Int) < x0)) ∧
                         ((((0 : Int) ≤ (2 : Int)) ∧
                           ((2 : Int) < x0)) ∧
                          ((((0 : Int) ≤ (1 : Int)) ∧
                            ((1 : Int) < x0)) ∧
                           ((True) ∧
                            (True →
                             ((!rightB (IntKind.wrap IntKind.i64 (x1 (0 : Nat))) (litArith BinOp.or IntKind.u64 (litArith BinOp.or IntKind.u64 (litArith BinOp.or IntKind.u64 (litArith BinOp.or IntKind.u64 (litArith BinOp.or IntKind.u64 (litArith BinOp.or IntKind.u64 (litArith BinOp.or IntKind.u64 (litArith BinOp.or IntKind.u64 (0 : Int) (litArith BinOp.shl IntKind.u64 (IntKind.wrap IntKind.u64 (x1 (1 : Nat))) (0 : Int))) (litArith BinOp.shl IntKind.u64 (IntKind.wrap IntKind.u64 (x1 (2 : Nat))) (8 : Int))) (litArith BinOp.shl IntKind.u64 (IntKind.wrap IntKind.u64 (x1 (3 : Nat))) (16 : Int))) (litArith BinOp.shl IntKind.u64 (IntKind.wrap IntKind.u64 (x1 (4 : Nat))) (24 : Int))) (litArith BinOp.shl IntKind.u64 (IntKind.wrap IntKind.u64 (x1 (5 : Nat))) (32 : Int))) (litArith BinOp.shl IntKind.u64 (IntKind.wrap IntKind.u64 (x1 (6 : Nat))) (40 : Int))) (litArith BinOp.shl IntKind.u64 (IntKind.wrap IntKind.u64 (x1 (7 : Nat))) (48 : Int))) (litArith BinOp.shl IntKind.u64 (IntKind.wrap IntKind.u64 (x1 (8 : Nat))) (56 : Int))) (litArith BinOp.or IntKind.u64 (litArith BinOp.or IntKind.u64 (litArith BinOp.or IntKind.u64 (litArith BinOp.or IntKind.u64 (litArith BinOp.or IntKind.u64 (litArith BinOp.or IntKind.u64 (litArith BinOp.or IntKind.u64 (litArith BinOp.or IntKind.u64 (0 : Int) (litArith BinOp.shl IntKind.u64 (IntKind.wrap IntKind.u64 (x1 (9 : Nat))) (0 : Int))) (litArith BinOp.shl IntKind.u64 (IntKind.wrap IntKind.u64 (x1 (10 : Nat))) (8 : Int))) (litArith BinOp.shl IntKind.u64 (IntKind.wrap IntKind.u64 (x1 (11 : Nat))) (16 : Int))) (litArith BinOp.shl IntKind.u64 (IntKind.wrap IntKind.u64 (x1 (12 : Nat))) (24 : Int))) (litArith BinOp.shl IntKind.u64 (IntKind.wrap IntKind.u64 (x1 (13 : Nat))) (32 : Int))) (litArith BinOp.shl IntKind.u64 (IntKind.wrap IntKind.u64 (x1 (14 : Nat))) (40 : Int))) (litArith BinOp.shl IntKind.u64 (IntKind.wrap IntKind.u64 (x1 (15 : Nat))) (48 : Int))) (litArith BinOp.shl IntKind.u64 (IntKind.wrap IntKind.u64 (x1 (16 : Nat))) (56 : Int))) (litArith BinOp.or IntKind.u64 (litArith BinOp.or IntKind.u64 (litArith BinOp.or IntKind.u64 (litArith BinOp.or IntKind.u64 (litArith BinOp.or IntKind.u64 (litArith BinOp.or IntKind.u64 (litArith BinOp.or IntKind.u64 (litArith BinOp.or IntKind.u64 (0 : Int) (litArith BinOp.shl IntKind.u64 (IntKind.wrap IntKind.u64 (x1 (17 : Nat))) (0 : Int))) (litArith BinOp.shl IntKind.u64 (IntKind.wrap IntKind.u64 (x1 (18 : Nat))) (8 : Int))) (litArith BinOp.shl IntKind.u64 (IntKind.wrap IntKind.u64 (x1 (19 : Nat))) (16 : Int))) (litArith BinOp.shl IntKind.u64 (IntKind.wrap IntKind.u64 (x1 (20 : Nat))) (24 : Int))) (litArith BinOp.shl IntKind.u64 (IntKind.wrap IntKind.u64 (x1 (21 : Nat))) (32 : Int))) (litArith BinOp.shl IntKind.u64 (IntKind.wrap IntKind.u64 (x1 (22 : Nat))) (40 : Int))) (litArith BinOp.shl IntKind.u64 (IntKind.wrap IntKind.u64 (x1 (23 : Nat))) (48 : Int))) (litArith BinOp.shl IntKind.u64 (IntKind.wrap IntKind.u64 (x1 (24 : Nat))) (56 : Int)))) = true →
                              (True) ∧
                              (((0 : Int) = readI x0 x1 (x1 (0 : Nat))) ∧
                               (((0 : Int) = readI x0 x1 (rd x1 (1 : Nat))) ∧
                                (((0 : Int) = readI x0 x1 (rd x1 (9 : Nat))) ∧
                                 (((0 : Int) = readI x0 x1 (rd x1 (17 : Nat))) ∧
                                  ((false = readOK x0 x1) ∧
                                   (True))))))) ∧
                             ((!rightB (IntKind.wrap IntKind.i64 (x1 (0 : Nat))) (litArith BinOp.or IntKind.u64 (litArith BinOp.or IntKind.u64 (litArith BinOp.or IntKind.u64 (litArith BinOp.or IntKind.u64 (litArith BinOp.or IntKind.u64 (litArith BinOp.or IntKind.u64 (litArith BinOp.or IntKind.u64 (litArith BinOp.or IntKind.u64 (0 : Int) (litArith BinOp.shl IntKind.u64 (IntKind.wrap IntKind.u64 (x1 (1 : Nat))) (0 : Int))) (litArith BinOp.shl IntKind.u64 (IntKind.wrap IntKind.u64 (x1 (2 : Nat))) (8 : Int))) (litArith BinOp.shl IntKind.u64 (IntKind.wrap IntKind.u64 (x1 (3 : Nat))) (16 : Int))) (litArith BinOp.shl IntKind.u64 (IntKind.wrap IntKind.u64 (x1 (4 : Nat))) (24 : Int))) (litArith BinOp.shl IntKind.u64 (IntKind.wrap IntKind.u64 (x1 (5 : Nat))) (32 : Int))) (litArith BinOp.shl IntKind.u64 (IntKind.wrap IntKind.u64 (x1 (6 : Nat))) (40 : Int))) (litArith BinOp.shl IntKind.u64 (IntKind.wrap IntKind.u64 (x1 (7 : Nat))) (48 : Int))) (litArith BinOp.shl IntKind.u64 (IntKind.wrap IntKind.u64 (x1 (8 : Nat))) (56 : Int))) (litArith BinOp.or IntKind.u64 (litArith BinOp.or IntKind.u64 (litArith BinOp.or IntKind.u64 (litArith BinOp.or IntKind.u64 (litArith BinOp.or IntKind.u64 (litArith BinOp.or IntKind.u64 (litArith BinOp.or IntKind.u64 (litArith BinOp.or IntKind.u64 (0 : Int) (litArith BinOp.shl IntKind.u64 (IntKind.wrap IntKind.u64 (x1 (9 : Nat))) (0 : Int))) (litArith BinOp.shl IntKind.u64 (IntKind.wrap IntKind.u64 (x1 (10 : Nat))) (8 : Int))) (litArith BinOp.shl IntKind.u64 (IntKind.wrap IntKind.u64 (x1 (11 : Nat))) (16 : Int))) (litArith BinOp.shl IntKind.u64 (IntKind.wrap IntKind.u64 (x1 (12 : Nat))) (24 : Int))) (litArith BinOp.shl IntKind.u64 (IntKind.wrap IntKind.u64 (x1 (13 : Nat))) (32 : Int))) (litArith BinOp.shl IntKind.u64 (IntKind.wrap IntKind.u64 (x1 (14 : Nat))) (40 : Int))) (litArith BinOp.shl IntKind.u64 (IntKind.wrap IntKind.u64 (x1 (15 : Nat))) (48 : Int))) (litArith BinOp.shl IntKind.u64 (IntKind.wrap IntKind.u64 (x1 (16 : Nat))) (56 : Int))) (litArith BinOp.or IntKind.u64 (litArith BinOp.or IntKind.u64 (litArith BinOp.or IntKind.u64 (litArith BinOp.or IntKind.u64 (litArith BinOp.or IntKind.u64 (litArith BinOp.or IntKind.u64 (litArith BinOp.or IntKind.u64 (litArith BinOp.or IntKind.u64 (0 : Int) (litArith BinOp.shl IntKind.u64 (IntKind.wrap IntKind.u64 (x1 (17 : Nat))) (0 : Int))) (litArith BinOp.shl IntKind.u64 (IntKind.wrap IntKind.u64 (x1 (18 : Nat))) (8 : Int))) (litArith BinOp.shl IntKind.u64 (IntKind.wrap IntKind.u64 (x1 (19 : Nat))) (16 : Int))) (litArith BinOp.shl IntKind.u64 (IntKind.wrap IntKind.u64 (x1 (20 : Nat))) (24 : Int))) (litArith BinOp.shl IntKind.u64 (IntKind.wrap IntKind.u64 (x1 (21 : Nat))) (32 : Int))) (litArith BinOp.shl IntKind.u64 (IntKind.wrap IntKind.u64 (x1 (22 : Nat))) (40 : Int))) (litArith BinOp.shl IntKind.u64 (IntKind.wrap IntKind.u64 (x1 (23 : Nat))) (48 : Int))) (litArith BinOp.shl IntKind.u64 (IntKind.wrap IntKind.u64 (x1 (24 : Nat))) (56 : Int)))) = false →
                              (True) ∧
                              ((IntKind.wrap IntKind.i64 (x1 (0 : Nat)) = readI x0 x1 (x1 (0 : Nat))) ∧
                               ((litArith BinOp.or IntKind.u64 (litArith BinOp.or IntKind.u64 (litArith BinOp.or IntKind.u64 (litArith BinOp.or IntKind.u64 (litArith BinOp.or IntKind.u64 (litArith BinOp.or IntKind.u64 (litArith BinOp.or IntKind.u64 (litArith BinOp.or IntKind.u64 (0 : Int) (litArith BinOp.shl IntKind.u64 (IntKind.wrap IntKind.u64 (x1 (1 : Nat))) (0 : Int))) (litArith BinOp.shl IntKind.u64 (IntKind.wrap IntKind.u64 (x1 (2 : Nat))) (8 : Int))) (litArith BinOp.shl IntKind.u64 (IntKind.wrap IntKind.u64 (x1 (3 : Nat))) (16 : Int))) (litArith BinOp.shl IntKind.u64 (IntKind.wrap IntKind.u64 (x1 (4 : Nat))) (24 : Int))) (litArith BinOp.shl IntKind.u64 (IntKind.wrap IntKind.u64 (x1 (5 : Nat))) (32 : Int))) (litArith BinOp.shl IntKind.u64 (IntKind.wrap IntKind.u64 (x1 (6 : Nat))) (40 : Int))) (litArith BinOp.shl IntKind.u64 (IntKind.wrap IntKind.u64 (x1 (7 : Nat))) (48 : Int))) (litArith BinOp.shl IntKind.u64 (IntKind.wrap IntKind.u64 (x1 (8 : Nat))) (56 : Int)) = readI x0 x1 (rd x1 (1 : Nat))) ∧
                                ((litArith BinOp.or IntKind.u64 (litArith BinOp.or IntKind.u64 (litArith BinOp.or IntKind.u64 (litArith BinOp.or IntKind.u64 (litArith BinOp.or IntKind.u64 (litArith BinOp.or IntKind.u64 (litArith BinOp.or IntKind.u64 (litArith BinOp.or IntKind.u64 (0 : Int) (litArith BinOp.shl IntKind.u64 (IntKind.wrap IntKind.u64 (x1 (9 : Nat))) (0 : Int))) (litArith BinOp.shl IntKind.u64 (IntKind.wrap IntKind.u64 (x1 (10 : Nat))) (8 : Int))) (litArith BinOp.shl IntKind.u64 (IntKind.wrap IntKind.u64 (x1 (11 : Nat))) (16 : Int))) (litArith BinOp.shl IntKind.u64 (IntKind.wrap IntKind.u64 (x1 (12 : Nat))) (24 : Int))) (litArith BinOp.shl IntKind.u64 (IntKind.wrap IntKind.u64 (x1 (13 : Nat))) (32 : Int))) (litArith BinOp.shl IntKind.u64 (IntKind.wrap IntKind.u64 (x1 (14 : Nat))) (40 : Int))) (litArith BinOp.shl IntKind.u64 (IntKind.wrap IntKind.u64 (x1 (15 : Nat))) (48 : Int))) (litArith BinOp.shl IntKind.u64 (IntKind.wrap IntKind.u64 (x1 (16 : Nat))) (56 : Int)) = readI x0 x1 (rd x1 (9 : Nat))) ∧
                                 ((litArith BinOp.or IntKind.u64 (litArith BinOp.or IntKind.u64 (litArith BinOp.or IntKind.u64 (litArith BinOp.or IntKind.u64 (litArith BinOp.or IntKind.u64 (litArith BinOp.or IntKind.u64 (litArith BinOp.or IntKind.u64 (litArith BinOp.or IntKind.u64 (0 : Int) (litArith BinOp.shl IntKind.u64 (IntKind.wrap IntKind.u64 (x1 (17 : Nat))) (0 : Int))) (litArith BinOp.shl IntKind.u64 (IntKind.wrap IntKind.u64 (x1 (18 : Nat))) (8 : Int))) (litArith BinOp.shl IntKind.u64 (IntKind.wrap IntKind.u64 (x1 (19 : Nat))) (16 : Int))) (litArith BinOp.shl IntKind.u64 (IntKind.wrap IntKind.u64 (x1 (20 : Nat))) (24 : Int))) (litArith BinOp.shl IntKind.u64 (IntKind.wrap IntKind.u64 (x1 (21 : Nat))) (32 : Int))) (litArith BinOp.shl IntKind.u64 (IntKind.wrap IntKind.u64 (x1 (22 : Nat))) (40 : Int))) (litArith BinOp.shl IntKind.u64 (IntKind.wrap IntKind.u64 (x1 (23 : Nat))) (48 : Int))) (litArith BinOp.shl IntKind.u64 (IntKind.wrap IntKind.u64 (x1 (24 : Nat))) (56 : Int)) = readI x0 x1 (rd x1 (17 : Nat))) ∧
                                  ((true = readOK x0 x1) ∧
                                   (True)))))))))))))))))))))))))))))))))) := by
  intro n f hf
  refine ⟨fun h => ?_, fun h => ?_⟩
  · have hn : n ≠ 25 := by simpa [litCmp] using h
    simp [readI, readOK, hn]
  · have hn : n = 25 := by simpa [litCmp] using h
    subst hn
    have e0 := wrapI (f 0) (hf 0 (by decide)).1 (hf 0 (by decide)).2
    have e1 := or8f f 1 (fun i h h' => hf i (by omega))
    have e2 := or8f f 9 (fun i h h' => hf i (by omega))
    have e3 := or8f f 17 (fun i h h' => hf i (by omega))
    rw [e0, e1, e2, e3]
    simp only [true_and, and_true, true_implies]
    cases h : rightB (f 0) (rd f 1) (rd f 9) (rd f 17) <;> simp [readI, readOK, h]
set_option maxRecDepth 10000 in
theorem read_ok : conRead.ok Try.prog 25 := by
  refine Con.of_vc ([]) ([]) TT_ok follows Try.func25 ?_ G5_ok (@toVC _ _ read_vc ?_)
  · kernel_rfl
  · kernel_rfl
noncomputable def G6 : List (FuncId × Con) := (25, conRead) :: G5
theorem G6_ok : GOK Try.prog G6 := GOK.cons (Callable.of Try.func25 (by kernel_rfl) (by kernel_rfl)) read_ok rfl G5_ok

set_option maxRecDepth 10000 in
theorem names_vc :
  True →
  (True) ∧
  ((∀ x0 : Nat,
    x0 < (13 : Nat) →
    List.getD [{ data := #[(111 : UInt8), (112 : UInt8), (101 : UInt8), (110 : UInt8)] }, { data := #[(116 : UInt8), (105 : UInt8), (109 : UInt8), (101 : UInt8), (114 : UInt8)] }, { data := #[(100 : UInt8), (117 : UInt8), (112 : UInt8)] }, { data := #[(100 : UInt8), (114 : UInt8), (111 : UInt8), (112 : UInt8)] }, { data := #[(97 : UInt8), (114 : UInt8), (109 : UInt8)] }, { data := #[(115 : UInt8), (116 : UInt8), (111 : UInt8), (112 : UInt8)] }, { data := #[(119 : UInt8), (104 : UInt8), (101 : UInt8), (110 : UInt8)] }, { data := #[(119 : UInt8), (97 : UInt8), (116 : UInt8), (99 : UInt8), (104 : UInt8)] }, { data := #[(117 : UInt8), (110 : UInt8), (119 : UInt8), (97 : UInt8), (116 : UInt8), (99 : UInt8), (104 : UInt8)] }, { data := #[(99 : UInt8), (111 : UInt8), (110 : UInt8), (100 : UInt8)] }, { data := #[(97 : UInt8), (99 : UInt8), (107 : UInt8)] }, { data := #[(117 : UInt8), (115 : UInt8), (101 : UInt8), (100 : UInt8)] }, { data := #[(110 : UInt8), (111 : UInt8), (119 : UInt8)] }] x0 ByteArray.empty = nmN x0) ∧
   (True)) := by
  intro _
  simp only [true_and, and_true]
  intro i hi
  have hi' : i = 0 ∨ i = 1 ∨ i = 2 ∨ i = 3 ∨ i = 4 ∨ i = 5 ∨ i = 6 ∨ i = 7 ∨ i = 8 ∨ i = 9 ∨ i = 10 ∨ i = 11 ∨ i = 12 := by omega
  rcases hi' with rfl | rfl | rfl | rfl | rfl | rfl | rfl | rfl | rfl | rfl | rfl | rfl | rfl <;> rfl
set_option maxRecDepth 10000 in
theorem names_ok : conNames.ok Try.prog 15 := by
  refine Con.of_vc ([]) ([]) TT_ok follows Try.func15 ?_ G6_ok (@toVC _ _ names_vc ?_)
  · kernel_rfl
  · kernel_rfl
noncomputable def G7 : List (FuncId × Con) := (15, conNames) :: G6
theorem G7_ok : GOK Try.prog G7 := GOK.cons (Callable.of Try.func15 (by kernel_rfl) (by kernel_rfl)) names_ok rfl G6_ok

set_option maxRecDepth 10000 in
theorem args_vc :
  True →
  (True) ∧
  ((∀ x0 : Nat,
    x0 < (13 : Nat) →
    List.getD [(1 : Int), (0 : Int), (2 : Int), (1 : Int), (3 : Int), (1 : Int), (1 : Int), (3 : Int), (1 : Int), (1 : Int), (2 : Int), (1 : Int), (0 : Int)] x0 (0 : Int) = arN x0) ∧
   (True)) := by
  intro _
  simp only [true_and, and_true]
  intro i hi
  have hi' : i = 0 ∨ i = 1 ∨ i = 2 ∨ i = 3 ∨ i = 4 ∨ i = 5 ∨ i = 6 ∨ i = 7 ∨ i = 8 ∨ i = 9 ∨ i = 10 ∨ i = 11 ∨ i = 12 := by omega
  rcases hi' with rfl | rfl | rfl | rfl | rfl | rfl | rfl | rfl | rfl | rfl | rfl | rfl | rfl <;> rfl
set_option maxRecDepth 10000 in
theorem args_ok : conArgs.ok Try.prog 16 := by
  refine Con.of_vc ([]) ([]) TT_ok follows Try.func16 ?_ G7_ok (@toVC _ _ args_vc ?_)
  · kernel_rfl
  · kernel_rfl
noncomputable def G8 : List (FuncId × Con) := (16, conArgs) :: G7
theorem G8_ok : GOK Try.prog G8 := GOK.cons (Callable.of Try.func16 (by kernel_rfl) (by kernel_rfl)) args_ok rfl G7_ok

set_option maxRecDepth 10000 in
theorem kinds_vc :
  True →
  (True) ∧
  ((∀ x0 : Nat,
    x0 < (13 : Nat) →
    List.getD [(0 : Int), (0 : Int), (0 : Int), (0 : Int), (1 : Int), (1 : Int), (1 : Int), (2 : Int), (2 : Int), (2 : Int), (2 : Int), (0 : Int), (0 : Int)] x0 (0 : Int) = kdN x0) ∧
   (True)) := by
  intro _
  simp only [true_and, and_true]
  intro i hi
  have hi' : i = 0 ∨ i = 1 ∨ i = 2 ∨ i = 3 ∨ i = 4 ∨ i = 5 ∨ i = 6 ∨ i = 7 ∨ i = 8 ∨ i = 9 ∨ i = 10 ∨ i = 11 ∨ i = 12 := by omega
  rcases hi' with rfl | rfl | rfl | rfl | rfl | rfl | rfl | rfl | rfl | rfl | rfl | rfl | rfl <;> rfl
set_option maxRecDepth 10000 in
theorem kinds_ok : conKinds.ok Try.prog 17 := by
  refine Con.of_vc ([]) ([]) TT_ok follows Try.func17 ?_ G8_ok (@toVC _ _ kinds_vc ?_)
  · kernel_rfl
  · kernel_rfl
noncomputable def G9 : List (FuncId × Con) := (17, conKinds) :: G8
theorem G9_ok : GOK Try.prog G9 := GOK.cons (Callable.of Try.func17 (by kernel_rfl) (by kernel_rfl)) kinds_ok rfl G8_ok

set_option maxRecDepth 10000 in
theorem rights_vc :
  True →
  (True) ∧
  ((∀ x0 : Nat,
    x0 < (13 : Nat) →
    List.getD [(0 : Int), (0 : Int), (8 : Int), (0 : Int), (1 : Int), (2 : Int), (4 : Int), (1 : Int), (2 : Int), (4 : Int), (4 : Int), (0 : Int), (0 : Int)] x0 (0 : Int) = rtN x0) ∧
   (True)) := by
  intro _
  simp only [true_and, and_true]
  intro i hi
  have hi' : i = 0 ∨ i = 1 ∨ i = 2 ∨ i = 3 ∨ i = 4 ∨ i = 5 ∨ i = 6 ∨ i = 7 ∨ i = 8 ∨ i = 9 ∨ i = 10 ∨ i = 11 ∨ i = 12 := by omega
  rcases hi' with rfl | rfl | rfl | rfl | rfl | rfl | rfl | rfl | rfl | rfl | rfl | rfl | rfl <;> rfl
set_option maxRecDepth 10000 in
theorem rights_ok : conRights.ok Try.prog 18 := by
  refine Con.of_vc ([]) ([]) TT_ok follows Try.func18 ?_ G9_ok (@toVC _ _ rights_vc ?_)
  · kernel_rfl
  · kernel_rfl
noncomputable def G10 : List (FuncId × Con) := (18, conRights) :: G9
theorem G10_ok : GOK Try.prog G10 := GOK.cons (Callable.of Try.func18 (by kernel_rfl) (by kernel_rfl)) rights_ok rfl G9_ok

set_option maxRecDepth 10000 in
theorem rright_vc :
  ∀ x0 : Int,
  ∀ x1 : Int,
  ∀ x2 : Int,
  ∀ x3 : Int,
  True →
  (litCmp BinOp.lss x0 (0 : Int) = true →
   (True) ∧
   ((false = rightB x0 x1 x2 x3) ∧
    (True))) ∧
  (litCmp BinOp.lss x0 (0 : Int) = false →
   (litCmp BinOp.geq x0 (13 : Int) = true →
    (True) ∧
    ((false = rightB x0 x1 x2 x3) ∧
     (True))) ∧
   (litCmp BinOp.geq x0 (13 : Int) = false →
    (True) ∧
    (True →
     (((0 : Int) ≤ x0) ∧
      (x0 < (13 : Int))) ∧
     ((litCmp BinOp.geq (arN (Int.toNat x0)) (1 : Int) = true →
       (litCmp BinOp.geq (arN (Int.toNat x0)) (2 : Int) = true →
        (litCmp BinOp.geq (arN (Int.toNat x0)) (3 : Int) = true →
         (True) ∧
         ((true = rightB x0 x1 x2 x3) ∧
          (True))) ∧
        (litCmp BinOp.geq (arN (Int.toNat x0)) (3 : Int) = false →
         (True) ∧
         ((litCmp BinOp.eql x3 (0 : Int) = rightB x0 x1 x2 x3) ∧
          (True)))) ∧
       (litCmp BinOp.geq (arN (Int.toNat x0)) (2 : Int) = false →
        (litCmp BinOp.eql x2 (0 : Int) = true →
         (litCmp BinOp.geq (arN (Int.toNat x0)) (3 : Int) = true →
          (True) ∧
          ((true = rightB x0 x1 x2 x3) ∧
           (True))) ∧
         (litCmp BinOp.geq (arN (Int.toNat x0)) (3 : Int) = false →
          (True) ∧
          ((litCmp BinOp.eql x3 (0 : Int) = rightB x0 x1 x2 x3) ∧
           (True)))) ∧
        (litCmp BinOp.eql x2 (0 : Int) = false →
         (True) ∧
         ((false = rightB x0 x1 x2 x3) ∧
          (True))))) ∧
      (litCmp BinOp.geq (arN (Int.toNat x0)) (1 : Int) = false →
       (litCmp BinOp.eql x1 (0 : Int) = true →
        (litCmp BinOp.geq (arN (Int.toNat x0)) (2 : Int) = true →
         (litCmp BinOp.geq (arN (Int.toNat x0)) (3 : Int) = true →
          (True) ∧
          ((true = rightB x0 x1 x2 x3) ∧
           (True))) ∧
         (litCmp BinOp.geq (arN (Int.toNat x0)) (3 : Int) = false →
          (True) ∧
          ((litCmp BinOp.eql x3 (0 : Int) = rightB x0 x1 x2 x3) ∧
           (True)))) ∧
        (litCmp BinOp.geq (arN (Int.toNat x0)) (2 : Int) = false →
         (litCmp BinOp.eql x2 (0 : Int) = true →
          (litCmp BinOp.geq (arN (Int.toNat x0)) (3 : Int) = true →
           (True) ∧
           ((true = rightB x0 x1 x2 x3) ∧
            (True))) ∧
          (litCmp BinOp.geq (arN (Int.toNat x0)) (3 : Int) = false →
           (True) ∧
           ((litCmp BinOp.eql x3 (0 : Int) = rightB x0 x1 x2 x3) ∧
            (True)))) ∧
         (litCmp BinOp.eql x2 (0 : Int) = false →
          (True) ∧
          ((false = rightB x0 x1 x2 x3) ∧
           (True))))) ∧
       (litCmp BinOp.eql x1 (0 : Int) = false →
        (True) ∧
        ((false = rightB x0 x1 x2 x3) ∧
         (True)))))))) := by
  intro x0 x1 x2 x3 _
  simp only [litCmp, beq_iff_eq, beq_eq_false_iff_ne, decide_eq_true_eq, decide_eq_false_iff_not, true_and, and_true, true_implies]
  refine ⟨fun h => ?_, fun h0 => ⟨fun h => ?_, fun h1 => ⟨by omega, ?_⟩⟩⟩
  · have : isop x0 = false := by simp [isop]; omega
    simp [rightB, this]
  · have : isop x0 = false := by simp [isop]; omega
    simp [rightB, this]
  have hA : arN (Int.toNat x0) = ar x0 := by simp [arN, Int.toNat_of_nonneg (show 0 ≤ x0 by omega)]
  have hi := isop_of (op := x0) (by omega) (by omega)
  rw [hA]
  repeat' first | refine ⟨?_, ?_⟩ | intro _
  all_goals
    simp_all [rightB]
    try (by_cases k0 : 0 < ar x0 <;> by_cases k1 : 1 < ar x0 <;> by_cases k2 : 2 < ar x0 <;> simp_all <;> omega)
set_option maxRecDepth 10000 in
theorem rright_ok : conRight.ok Try.prog 21 := by
  refine Con.of_vc ([]) ([]) TT_ok follows Try.func21 ?_ G10_ok (@toVC _ _ rright_vc ?_)
  · kernel_rfl
  · kernel_rfl
noncomputable def G11 : List (FuncId × Con) := (21, conRight) :: G10
theorem G11_ok : GOK Try.prog G11 := GOK.cons (Callable.of Try.func21 (by kernel_rfl) (by kernel_rfl)) rright_ok rfl G10_ok
end Go.Proofs.Ytkhbodngiodklaa
