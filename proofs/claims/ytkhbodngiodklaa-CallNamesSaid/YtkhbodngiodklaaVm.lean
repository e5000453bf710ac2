/- Names of calls: call.Named, and the law. -/
import Derived.Test.YtkhbodngiodklaaVn
set_option linter.all false
namespace Go.Proofs.Ytkhbodngiodklaa
open Go Go.Fx

set_option maxRecDepth 10000 in
theorem named_vc :
  ∀ x0 : ByteArray,
  True →
  (True) ∧
  (True →
   ∀ x1 : (ByteArray × (Int × (Int × Int))),
   (x1 = ofF (0 : Int)) →
   ((same (Prod.fst x1) x0 = true) →
    (True) ∧
    (((0 : Int) = Prod.fst (named x0)) ∧
     ((true = Prod.snd (named x0)) ∧
      (True)))) ∧
   ((same (Prod.fst x1) x0 = false) →
    (True) ∧
    (True →
     ∀ x2 : (ByteArray × (Int × (Int × Int))),
     (x2 = ofF (1 : Int)) →
     ((same (Prod.fst x2) x0 = true) →
      (True) ∧
      (((1 : Int) = Prod.fst (named x0)) ∧
       ((true = Prod.snd (named x0)) ∧
        (True)))) ∧
     ((same (Prod.fst x2) x0 = false) →
      (True) ∧
      (True →
       ∀ x3 : (ByteArray × (Int × (Int × Int))),
       (x3 = ofF (2 : Int)) →
       ((same (Prod.fst x3) x0 = true) →
        (True) ∧
        (((2 : Int) = Prod.fst (named x0)) ∧
         ((true = Prod.snd (named x0)) ∧
          (True)))) ∧
       ((same (Prod.fst x3) x0 = false) →
        (True) ∧
        (True →
         ∀ x4 : (ByteArray × (Int × (Int × Int))),
         (x4 = ofF (3 : Int)) →
         ((same (Prod.fst x4) x0 = true) →
          (True) ∧
          (((3 : Int) = Prod.fst (named x0)) ∧
           ((true = Prod.snd (named x0)) ∧
            (True)))) ∧
         ((same (Prod.fst x4) x0 = false) →
          (True) ∧
          (True →
           ∀ x5 : (ByteArray × (Int × (Int × Int))),
           (x5 = ofF (4 : Int)) →
           ((same (Prod.fst x5) x0 = true) →
            (True) ∧
            (((4 : Int) = Prod.fst (named x0)) ∧
             ((true = Prod.snd (named x0)) ∧
              (True)))) ∧
           ((same (Prod.fst x5) x0 = false) →
            (True) ∧
            (True →
             ∀ x6 : (ByteArray × (Int × (Int × Int))),
             (x6 = ofF (5 : Int)) →
             ((same (Prod.fst x6) x0 = true) →
              (True) ∧
              (((5 : Int) = Prod.fst (named x0)) ∧
               ((true = Prod.snd (named x0)) ∧
                (True)))) ∧
             ((same (Prod.fst x6) x0 = false) →
              (True) ∧
              (True →
               ∀ x7 : (ByteArray × (Int × (Int × Int))),
               (x7 = ofF (6 : Int)) →
               ((same (Prod.fst x7) x0 = true) →
                (True) ∧
                (((6 : Int) = Prod.fst (named x0)) ∧
                 ((true = Prod.snd (named x0)) ∧
                  (True)))) ∧
               ((same (Prod.fst x7) x0 = false) →
                (True) ∧
                (True →
                 ∀ x8 : (ByteArray × (Int × (Int × Int))),
                 (x8 = ofF (7 : Int)) →
                 ((same (Prod.fst x8) x0 = true) →
                  (True) ∧
                  (((7 : Int) = Prod.fst (named x0)) ∧
                   ((true = Prod.snd (named x0)) ∧
                    (True)))) ∧
                 ((same (Prod.fst x8) x0 = false) →
                  (True) ∧
                  (True →
                   ∀ x9 : (ByteArray × (Int × (Int × Int))),
                   (x9 = ofF (8 : Int)) →
                   ((same (Prod.fst x9) x0 = true) →
                    (True) ∧
                    (((8 : Int) = Prod.fst (named x0)) ∧
                     ((true = Prod.snd (named x0)) ∧
                      (True)))) ∧
                   ((same (Prod.fst x9) x0 = false) →
                    (True) ∧
                    (True →
                     ∀ x10 : (ByteArray × (Int × (Int × Int))),
                     (x10 = ofF (9 : Int)) →
                     ((same (Prod.fst x10) x0 = true) →
                      (True) ∧
                      (((9 : Int) = Prod.fst (named x0)) ∧
                       ((true = Prod.snd (named x0)) ∧
                        (True)))) ∧
                     ((same (Prod.fst x10) x0 = false) →
                      (True) ∧
                      (True →
                       ∀ x11 : (ByteArray × (Int × (Int × Int))),
                       (x11 = ofF (10 : Int)) →
                       ((same (Prod.fst x11) x0 = true) →
                        (True) ∧
                        (((10 : Int) = Prod.fst (named x0)) ∧
                         ((true = Prod.snd (named x0)) ∧
                          (True)))) ∧
                       ((same (Prod.fst x11) x0 = false) →
                        (True) ∧
                        (True →
                         ∀ x12 : (ByteArray × (Int × (Int × Int))),
                         (x12 = ofF (11 : Int)) →
                         ((same (Prod.fst x12) x0 = true) →
                          (True) ∧
                          (((11 : Int) = Prod.fst (named x0)) ∧
                           ((true = Prod.snd (named x0)) ∧
                            (True)))) ∧
                         ((same (Prod.fst x12) x0 = false) →
                          (True) ∧
                          (True →
                           ∀ x13 : (ByteArray × (Int × (Int × Int))),
                           (x13 = ofF (12 : Int)) →
                           ((same (Prod.fst x13) x0 = true) →
                            (True) ∧
                            (((12 : Int) = Prod.fst (named x0)) ∧
                             ((true = Prod.snd (named x0)) ∧
                              (True)))) ∧
                           ((same (Prod.fst x13) x0 = false) →
                            (True) ∧
                            (((0 : Int) = Prod.fst (named x0)) ∧
                             ((false = Prod.snd (named x0)) ∧
                              (True))))))))))))))))))))))))))))) := by
  intro x h
  simp only [true_and, and_true, true_implies, forall_eq, ofF]
  unfold named
  simp only [namedL]
  repeat' first | exact trivial | refine ⟨fun h => ?_, fun h => ?_⟩ | simp_all
set_option maxRecDepth 10000 in
theorem named_ok : conNamed.ok KK Try.prog 19 := by
  refine Con.of_vc ([]) ([]) TT_ok follows Try.func19 ?_ G15_ok (@toVC _ _ named_vc ?_)
  · kernel_rfl
  · kernel_rfl
noncomputable def G16 : List (FuncId × Con) := (19, conNamed) :: G15
theorem G16_ok : GOK KK Try.prog G16 := GOK.cons (Callable.of Try.func19 (by kernel_rfl) (by kernel_rfl)) named_ok G15_ok

set_option maxRecDepth 10000 in
theorem alive14_vc :
  True →
  (True) ∧
  (True →
   ∀ x0 : (ByteArray × (Int × (Int × Int))),
   (x0 = ofF (4 : Int)) →
   (True) ∧
   (True →
    (True) ∧
    (True →
     (bytes (callL ((4 : Int), (258 : Int), (3 : Int), (0 : Int)))) ∧
     (True →
      ∀ x1 : (Int × (Int × (Int × Int))),
      (x1 = readC (callL ((4 : Int), (258 : Int), (3 : Int), (0 : Int)))) →
      ((isop (4 : Int) = true) →
       ((same x0 ({ data := #[(97 : UInt8), (114 : UInt8), (109 : UInt8)] }, (3 : Int), (1 : Int), (1 : Int)) = true) →
        ((Prod.snd (named { data := #[(97 : UInt8), (114 : UInt8), (109 : UInt8)] }) = true) →
         ((litCmp BinOp.eql (Prod.fst (named { data := #[(97 : UInt8), (114 : UInt8), (109 : UInt8)] })) (4 : Int) = true) →
          ((rightC ((4 : Int), (258 : Int), (3 : Int), (0 : Int)) = true) →
           ((litCmp BinOp.eql (25 : Int) (25 : Int) = true) →
            (((0 : Int) ≤ (0 : Int)) ∧
             ((0 : Int) < (25 : Int))) ∧
            (∀ x2 : Int,
             (x2 = (4 : Int)) →
             ((litCmp BinOp.eql x2 (4 : Int) = true) →
              (((0 : Int) ≤ (1 : Int)) ∧
               ((1 : Int) < (25 : Int))) ∧
              (∀ x3 : Int,
               (x3 = (2 : Int)) →
               ((litCmp BinOp.eql x3 (2 : Int) = true) →
                (((0 : Int) ≤ (2 : Int)) ∧
                 ((2 : Int) < (25 : Int))) ∧
                (∀ x4 : Int,
                 (x4 = (1 : Int)) →
                 ((litCmp BinOp.eql x4 (1 : Int) = true) →
                  (((0 : Int) ≤ (9 : Int)) ∧
                   ((9 : Int) < (25 : Int))) ∧
                  (∀ x5 : Int,
                   (x5 = (3 : Int)) →
                   ((litCmp BinOp.eql x5 (3 : Int) = true) →
                    ((readOK (callL ((4 : Int), (258 : Int), (3 : Int), (0 : Int))) = true) →
                     ((same x1 ((4 : Int), (258 : Int), (3 : Int), (0 : Int)) = true) →
                      (True) ∧
                      (True →
                       (True) ∧
                       (((!rightC ((13 : Int), (0 : Int), (0 : Int), (0 : Int))) = true) ∧
                        (True)))) ∧
                     ((same x1 ((4 : Int), (258 : Int), (3 : Int), (0 : Int)) = false) →
                      (True) ∧
                      (False))) ∧
                    ((readOK (callL ((4 : Int), (258 : Int), (3 : Int), (0 : Int))) = false) →
                     (True) ∧
                     (False))) ∧
                   ((litCmp BinOp.eql x5 (3 : Int) = false) →
                    (True) ∧
                    (False)))) ∧
                 ((litCmp BinOp.eql x4 (1 : Int) = false) →
                  (True) ∧
                  (False)))) ∧
               ((litCmp BinOp.eql x3 (2 : Int) = false) →
                (True) ∧
                (False)))) ∧
             ((litCmp BinOp.eql x2 (4 : Int) = false) →
              (True) ∧
              (False)))) ∧
           ((litCmp BinOp.eql (25 : Int) (25 : Int) = false) →
            (True) ∧
            (False))) ∧
          ((rightC ((4 : Int), (258 : Int), (3 : Int), (0 : Int)) = false) →
           (True) ∧
           (False))) ∧
         ((litCmp BinOp.eql (Prod.fst (named { data := #[(97 : UInt8), (114 : UInt8), (109 : UInt8)] })) (4 : Int) = false) →
          (True) ∧
          (False))) ∧
        ((Prod.snd (named { data := #[(97 : UInt8), (114 : UInt8), (109 : UInt8)] }) = false) →
         (True) ∧
         (False))) ∧
       ((same x0 ({ data := #[(97 : UInt8), (114 : UInt8), (109 : UInt8)] }, (3 : Int), (1 : Int), (1 : Int)) = false) →
        (True) ∧
        (False))) ∧
      ((isop (4 : Int) = false) →
       (True) ∧
       (False)))))) := by
  intro _
  have hn : named { data := #[(97 : UInt8), (114 : UInt8), (109 : UInt8)] } = (4, true) := named_nm (op := 4) (by decide) (by decide)
  have e1 : readOK (callL ((4 : Int), (258 : Int), (3 : Int), (0 : Int))) = true := by decide +kernel
  have e2 : readC (callL ((4 : Int), (258 : Int), (3 : Int), (0 : Int))) = ((4 : Int), (258 : Int), (3 : Int), (0 : Int)) := by decide +kernel
  have e3 : ofF 4 = ({ data := #[(97 : UInt8), (114 : UInt8), (109 : UInt8)] }, (3 : Int), (1 : Int), (1 : Int)) := rfl
  have e4 : isop 4 = true := rfl
  have e5 : rightC ((4 : Int), (258 : Int), (3 : Int), (0 : Int)) = true := by decide +kernel
  have e6 : rightC ((13 : Int), (0 : Int), (0 : Int), (0 : Int)) = false := by decide +kernel
  simp only [hn, e1, e2, e3, e4, e5, e6]
  refine ⟨trivial, fun _ _ h0 => ⟨trivial, fun _ => ⟨trivial, fun _ => ⟨callL_bytes _, fun _ _ h1 => ?_⟩⟩⟩⟩
  subst h0 h1
  simp [gtrT, gtrF, lssT, lssF, leqT, leqF, geqT, geqF, eqlT, eqlF, neqT, neqF, true_and, and_true, true_implies, implies_true, Bool.not_eq_true', Bool.not_eq_false', bne_iff_ne, ne_eq, not_true_eq_false, not_false_eq_true, Int.toNat_natCast, same_self, reduceCtorEq, false_implies, List.nil_append]
set_option maxRecDepth 10000 in
theorem alive14_ok : conAlive14.ok KK Try.prog 13 := by
  refine Con.of_vc ([]) ([]) TT_ok follows Try.func13 ?_ G16_ok (@toVC _ _ alive14_vc ?_)
  · kernel_rfl
  · kernel_rfl
noncomputable def G17 : List (FuncId × Con) := (13, conAlive14) :: G16
theorem G17_ok : GOK KK Try.prog G17 := GOK.cons (Callable.of Try.func13 (by kernel_rfl) (by kernel_rfl)) alive14_ok G16_ok

set_option maxRecDepth 10000 in
theorem callNames_vc :
  ∀ x0 : Int,
  ∀ x1 : Int,
  ∀ x2 : Int,
  ∀ x3 : Int,
  ∀ x4 : Int,
  ((((((True) ∧
        (Fits (Tp.i IntKind.i64) x0)) ∧
       (Fits (Tp.i IntKind.i64) x1)) ∧
      (Fits (Tp.i IntKind.u64) x2)) ∧
     (Fits (Tp.i IntKind.u64) x3)) ∧
    (Fits (Tp.i IntKind.u64) x4)) →
  (True) ∧
  (True →
   (True) ∧
   (True →
    ∀ x5 : (ByteArray × (Int × (Int × Int))),
    (x5 = ofF x0) →
    (True) ∧
    (True →
     ∀ x6 : (ByteArray × (Int × (Int × Int))),
     (x6 = ofF x1) →
     (((!isop x0) = true) →
      ((same x5 (ByteArray.empty, (0 : Int), (0 : Int), (0 : Int)) = true) →
       (True) ∧
       (True →
        (True) ∧
        (((!rightC (x0, x2, x3, x4)) = true) ∧
         (True)))) ∧
      ((same x5 (ByteArray.empty, (0 : Int), (0 : Int), (0 : Int)) = false) →
       (True) ∧
       (False))) ∧
     (((!isop x0) = false) →
      ∃ x7 : (ByteArray × Int) → Prop,
      ∃ x8 : (ByteArray × Int) → Nat,
      (x7 (Prod.fst x5, (0 : Int))) ∧
      (∀ x9 : (ByteArray × Int),
       (x7 x9) →
       ((decide (Prod.snd x9 < (↑(ByteArray.size (Prod.fst x9)) : Int)) = true) →
        (decide (Prod.snd x9 < (↑(ByteArray.size (Prod.fst x9)) : Int)) = true) ∧
        (((litCmp BinOp.lss (↑(Prod.fst (Utf8.decode (Prod.fst x9) (Int.toNat (Prod.snd x9)))) : Int) (97 : Int) = true) →
          (True) ∧
          (False)) ∧
         ((litCmp BinOp.lss (↑(Prod.fst (Utf8.decode (Prod.fst x9) (Int.toNat (Prod.snd x9)))) : Int) (97 : Int) = false) →
          ((litCmp BinOp.gtr (↑(Prod.fst (Utf8.decode (Prod.fst x9) (Int.toNat (Prod.snd x9)))) : Int) (122 : Int) = true) →
           (True) ∧
           (False)) ∧
          ((litCmp BinOp.gtr (↑(Prod.fst (Utf8.decode (Prod.fst x9) (Int.toNat (Prod.snd x9)))) : Int) (122 : Int) = false) →
           (x0 = x0) ∧
           ((x1 = x1) ∧
            ((x2 = x2) ∧
             ((x3 = x3) ∧
              ((x4 = x4) ∧
               ((isop x1 = isop x1) ∧
                ((x5 = x5) ∧
                 ((x6 = x6) ∧
                  ((x7 (Prod.fst x9, if Prod.snd x9 < (↑(ByteArray.size (Prod.fst x9)) : Int) then Prod.snd x9 + (↑(Prod.snd (Utf8.decode (Prod.fst x9) (Int.toNat (Prod.snd x9)))) : Int) else Prod.snd x9)) ∧
                   (x8 (Prod.fst x9, if Prod.snd x9 < (↑(ByteArray.size (Prod.fst x9)) : Int) then Prod.snd x9 + (↑(Prod.snd (Utf8.decode (Prod.fst x9) (Int.toNat (Prod.snd x9)))) : Int) else Prod.snd x9) < x8 x9))))))))))))) ∧
       ((decide (Prod.snd x9 < (↑(ByteArray.size (Prod.fst x9)) : Int)) = false) →
        (True) ∧
        (True →
         (((!Prod.snd (named (Prod.fst x5))) = true) →
          (True) ∧
          (False)) ∧
         (((!Prod.snd (named (Prod.fst x5))) = false) →
          ((litCmp BinOp.neq (Prod.fst (named (Prod.fst x5))) x0 = true) →
           (True) ∧
           (False)) ∧
          ((litCmp BinOp.neq (Prod.fst (named (Prod.fst x5))) x0 = false) →
           ((isop x1 = true) →
            (((!same (Prod.fst x5) (Prod.fst x6) == litCmp BinOp.eql x0 x1) = true) →
             (True) ∧
             (False)) ∧
            (((!same (Prod.fst x5) (Prod.fst x6) == litCmp BinOp.eql x0 x1) = false) →
             ((litCmp BinOp.eql (↑(ByteArray.size (Prod.fst x5)) : Int) (0 : Int) = true) →
              (True) ∧
              (False)) ∧
             ((litCmp BinOp.eql (↑(ByteArray.size (Prod.fst x5)) : Int) (0 : Int) = false) →
              ((litCmp BinOp.lss (Prod.fst (Prod.snd x5)) (0 : Int) = true) →
               (True) ∧
               (False)) ∧
              ((litCmp BinOp.lss (Prod.fst (Prod.snd x5)) (0 : Int) = false) →
               ((litCmp BinOp.gtr (Prod.fst (Prod.snd x5)) (3 : Int) = true) →
                (True) ∧
                (False)) ∧
               ((litCmp BinOp.gtr (Prod.fst (Prod.snd x5)) (3 : Int) = false) →
                ((litCmp BinOp.neq (Prod.fst (Prod.snd (Prod.snd x5))) (0 : Int) = true) →
                 ((litCmp BinOp.eql (Prod.fst (Prod.snd x5)) (0 : Int) = true) →
                  (True) ∧
                  (False)) ∧
                 ((litCmp BinOp.eql (Prod.fst (Prod.snd x5)) (0 : Int) = false) →
                  ((litCmp BinOp.eql (Prod.snd (Prod.snd (Prod.snd x5))) (0 : Int) = true) →
                   (True) ∧
                   (False)) ∧
                  ((litCmp BinOp.eql (Prod.snd (Prod.snd (Prod.snd x5))) (0 : Int) = false) →
                   ∀ x10 : Int,
                   (x10 = litArith BinOp.andNot IntKind.i64 (Prod.snd (Prod.snd (Prod.snd x5))) (15 : Int)) →
                   ((litCmp BinOp.neq x10 (0 : Int) = true) →
                    (True) ∧
                    (False)) ∧
                   ((litCmp BinOp.neq x10 (0 : Int) = false) →
                    ∃ x11 : Int → Int → Int → Int → Prop,
                    ∃ x12 : Int → Int → Int → Int → Nat,
                    (x11 (Prod.fst (Prod.snd x5)) x2 x3 x4) ∧
                    (∀ x13 : Int,
                     ∀ x14 : Int,
                     ∀ x15 : Int,
                     ∀ x16 : Int,
                     (x11 x13 x14 x15 x16) →
                     ((litCmp BinOp.lss x13 (3 : Int) = true) →
                      (((0 : Int) ≤ x13) ∧
                       (x13 < (3 : Int))) ∧
                      (((x13 = (0 : Int)) →
                        ∀ x17 : Int,
                        (x17 = litArith BinOp.add IntKind.i64 x13 (1 : Int)) →
                        (x0 = x0) ∧
                        ((x5 = x5) ∧
                         ((x6 = x6) ∧
                          (((Prod.fst x9, if Prod.snd x9 < (↑(ByteArray.size (Prod.fst x9)) : Int) then Prod.snd x9 + (↑(Prod.snd (Utf8.decode (Prod.fst x9) (Int.toNat (Prod.snd x9)))) : Int) else Prod.snd x9) = (Prod.fst x9, if Prod.snd x9 < (↑(ByteArray.size (Prod.fst x9)) : Int) then Prod.snd x9 + (↑(Prod.snd (Utf8.decode (Prod.fst x9) (Int.toNat (Prod.snd x9)))) : Int) else Prod.snd x9)) ∧
                           ((x11 x17 (0 : Int) x15 x16) ∧
                            (x12 x17 (0 : Int) x15 x16 < x12 x13 x14 x15 x16)))))) ∧
                       (((x13 = (1 : Int)) →
                         ∀ x18 : Int,
                         (x18 = litArith BinOp.add IntKind.i64 x13 (1 : Int)) →
                         (x0 = x0) ∧
                         ((x5 = x5) ∧
                          ((x6 = x6) ∧
                           (((Prod.fst x9, if Prod.snd x9 < (↑(ByteArray.size (Prod.fst x9)) : Int) then Prod.snd x9 + (↑(Prod.snd (Utf8.decode (Prod.fst x9) (Int.toNat (Prod.snd x9)))) : Int) else Prod.snd x9) = (Prod.fst x9, if Prod.snd x9 < (↑(ByteArray.size (Prod.fst x9)) : Int) then Prod.snd x9 + (↑(Prod.snd (Utf8.decode (Prod.fst x9) (Int.toNat (Prod.snd x9)))) : Int) else Prod.snd x9)) ∧
                            ((x11 x18 x14 (0 : Int) x16) ∧
                             (x12 x18 x14 (0 : Int) x16 < x12 x13 x14 x15 x16)))))) ∧
                        ((x13 = (2 : Int)) →
                         ∀ x19 : Int,
                         (x19 = litArith BinOp.add IntKind.i64 x13 (1 : Int)) →
                         (x0 = x0) ∧
                         ((x5 = x5) ∧
                          ((x6 = x6) ∧
                           (((Prod.fst x9, if Prod.snd x9 < (↑(ByteArray.size (Prod.fst x9)) : Int) then Prod.snd x9 + (↑(Prod.snd (Utf8.decode (Prod.fst x9) (Int.toNat (Prod.snd x9)))) : Int) else Prod.snd x9) = (Prod.fst x9, if Prod.snd x9 < (↑(ByteArray.size (Prod.fst x9)) : Int) then Prod.snd x9 + (↑(Prod.snd (Utf8.decode (Prod.fst x9) (Int.toNat (Prod.snd x9)))) : Int) else Prod.snd x9)) ∧
                            ((x11 x19 x14 x15 (0 : Int)) ∧
                             (x12 x19 x14 x15 (0 : Int) < x12 x13 x14 x15 x16))))))))) ∧
                     ((litCmp BinOp.lss x13 (3 : Int) = false) →
                      (True) ∧
                      (True →
                       (True) ∧
                       ((rightC (x0, x14, x15, x16) = true) ∧
                        (True))))))))) ∧
                ((litCmp BinOp.neq (Prod.fst (Prod.snd (Prod.snd x5))) (0 : Int) = false) →
                 ∀ x20 : Int,
                 (x20 = litArith BinOp.andNot IntKind.i64 (Prod.snd (Prod.snd (Prod.snd x5))) (15 : Int)) →
                 ((litCmp BinOp.neq x20 (0 : Int) = true) →
                  (True) ∧
                  (False)) ∧
                 ((litCmp BinOp.neq x20 (0 : Int) = false) →
                  ∃ x21 : Int → Int → Int → Int → Prop,
                  ∃ x22 : Int → Int → Int → Int → Nat,
                  (x21 (Prod.fst (Prod.snd x5)) x2 x3 x4) ∧
                  (∀ x23 : Int,
                   ∀ x24 : Int,
                   ∀ x25 : Int,
                   ∀ x26 : Int,
                   (x21 x23 x24 x25 x26) →
                   ((litCmp BinOp.lss x23 (3 : Int) = true) →
                    (((0 : Int) ≤ x23) ∧
                     (x23 < (3 : Int))) ∧
                    (((x23 = (0 : Int)) →
                      ∀ x27 : Int,
                      (x27 = litArith BinOp.add IntKind.i64 x23 (1 : Int)) →
                      (x0 = x0) ∧
                      ((x5 = x5) ∧
                       ((x6 = x6) ∧
                        (((Prod.fst x9, if Prod.snd x9 < (↑(ByteArray.size (Prod.fst x9)) : Int) then Prod.snd x9 + (↑(Prod.snd (Utf8.decode (Prod.fst x9) (Int.toNat (Prod.snd x9)))) : Int) else Prod.snd x9) = (Prod.fst x9, if Prod.snd x9 < (↑(ByteArray.size (Prod.fst x9)) : Int) then Prod.snd x9 + (↑(Prod.snd (Utf8.decode (Prod.fst x9) (Int.toNat (Prod.snd x9)))) : Int) else Prod.snd x9)) ∧
                         ((x21 x27 (0 : Int) x25 x26) ∧
                          (x22 x27 (0 : Int) x25 x26 < x22 x23 x24 x25 x26)))))) ∧
                     (((x23 = (1 : Int)) →
                       ∀ x28 : Int,
                       (x28 = litArith BinOp.add IntKind.i64 x23 (1 : Int)) →
                       (x0 = x0) ∧
                       ((x5 = x5) ∧
                        ((x6 = x6) ∧
                         (((Prod.fst x9, if Prod.snd x9 < (↑(ByteArray.size (Prod.fst x9)) : Int) then Prod.snd x9 + (↑(Prod.snd (Utf8.decode (Prod.fst x9) (Int.toNat (Prod.snd x9)))) : Int) else Prod.snd x9) = (Prod.fst x9, if Prod.snd x9 < (↑(ByteArray.size (Prod.fst x9)) : Int) then Prod.snd x9 + (↑(Prod.snd (Utf8.decode (Prod.fst x9) (Int.toNat (Prod.snd x9)))) : Int) else Prod.snd x9)) ∧
                          ((x21 x28 x24 (0 : Int) x26) ∧
                           (x22 x28 x24 (0 : Int) x26 < x22 x23 x24 x25 x26)))))) ∧
                      ((x23 = (2 : Int)) →
                       ∀ x29 : Int,
                       (x29 = litArith BinOp.add IntKind.i64 x23 (1 : Int)) →
                       (x0 = x0) ∧
                       ((x5 = x5) ∧
                        ((x6 = x6) ∧
                         (((Prod.fst x9, if Prod.snd x9 < (↑(ByteArray.size (Prod.fst x9)) : Int) then Prod.snd x9 + (↑(Prod.snd (Utf8.decode (Prod.fst x9) (Int.toNat (Prod.snd x9)))) : Int) else Prod.snd x9) = (Prod.fst x9, if Prod.snd x9 < (↑(ByteArray.size (Prod.fst x9)) : Int) then Prod.snd x9 + (↑(Prod.snd (Utf8.decode (Prod.fst x9) (Int.toNat (Prod.snd x9)))) : Int) else Prod.snd x9)) ∧
                          ((x21 x29 x24 x25 (0 : Int)) ∧
                           (x22 x29 x24 x25 (0 : Int) < x22 x23 x24 x25 x26))))))))) ∧
                   ((litCmp BinOp.lss x23 (3 : Int) = false) →
                    (True) ∧
                    (True →
                     (True) ∧
                     ((rightC (x0, x24, x25, x26) = true) ∧
                      (True)))))))))))) ∧
           ((isop x1 = false) →
            ((litCmp BinOp.eql (↑(ByteArray.size (Prod.fst x5)) : Int) (0 : Int) = true) →
             (True) ∧
             (False)) ∧
            ((litCmp BinOp.eql (↑(ByteArray.size (Prod.fst x5)) : Int) (0 : Int) = false) →
             ((litCmp BinOp.lss (Prod.fst (Prod.snd x5)) (0 : Int) = true) →
              (True) ∧
              (False)) ∧
             ((litCmp BinOp.lss (Prod.fst (Prod.snd x5)) (0 : Int) = false) →
              ((litCmp BinOp.gtr (Prod.fst (Prod.snd x5)) (3 : Int) = true) →
               (True) ∧
               (False)) ∧
              ((litCmp BinOp.gtr (Prod.fst (Prod.snd x5)) (3 : Int) = false) →
               ((litCmp BinOp.neq (Prod.fst (Prod.snd (Prod.snd x5))) (0 : Int) = true) →
                ((litCmp BinOp.eql (Prod.fst (Prod.snd x5)) (0 : Int) = true) →
                 (True) ∧
                 (False)) ∧
                ((litCmp BinOp.eql (Prod.fst (Prod.snd x5)) (0 : Int) = false) →
                 ((litCmp BinOp.eql (Prod.snd (Prod.snd (Prod.snd x5))) (0 : Int) = true) →
                  (True) ∧
                  (False)) ∧
                 ((litCmp BinOp.eql (Prod.snd (Prod.snd (Prod.snd x5))) (0 : Int) = false) →
                  ∀ x30 : Int,
                  (x30 = litArith BinOp.andNot IntKind.i64 (Prod.snd (Prod.snd (Prod.snd x5))) (15 : Int)) →
                  ((litCmp BinOp.neq x30 (0 : Int) = true) →
                   (True) ∧
                   (False)) ∧
                  ((litCmp BinOp.neq x30 (0 : Int) = false) →
                   ∃ x31 : Int → Int → Int → Int → Prop,
                   ∃ x32 : Int → Int → Int → Int → Nat,
                   (x31 (Prod.fst (Prod.snd x5)) x2 x3 x4) ∧
                   (∀ x33 : Int,
                    ∀ x34 : Int,
                    ∀ x35 : Int,
                    ∀ x36 : Int,
                    (x31 x33 x34 x35 x36) →
                    ((litCmp BinOp.lss x33 (3 : Int) = true) →
                     (((0 : Int) ≤ x33) ∧
                      (x33 < (3 : Int))) ∧
                     (((x33 = (0 : Int)) →
                       ∀ x37 : Int,
                       (x37 = litArith BinOp.add IntKind.i64 x33 (1 : Int)) →
                       (x0 = x0) ∧
                       ((x5 = x5) ∧
                        ((x6 = x6) ∧
                         (((Prod.fst x9, if Prod.snd x9 < (↑(ByteArray.size (Prod.fst x9)) : Int) then Prod.snd x9 + (↑(Prod.snd (Utf8.decode (Prod.fst x9) (Int.toNat (Prod.snd x9)))) : Int) else Prod.snd x9) = (Prod.fst x9, if Prod.snd x9 < (↑(ByteArray.size (Prod.fst x9)) : Int) then Prod.snd x9 + (↑(Prod.snd (Utf8.decode (Prod.fst x9) (Int.toNat (Prod.snd x9)))) : Int) else Prod.snd x9)) ∧
                          ((x31 x37 (0 : Int) x35 x36) ∧
                           (x32 x37 (0 : Int) x35 x36 < x32 x33 x34 x35 x36)))))) ∧
                      (((x33 = (1 : Int)) →
                        ∀ x38 : Int,
                        (x38 = litArith BinOp.add IntKind.i64 x33 (1 : Int)) →
                        (x0 = x0) ∧
                        ((x5 = x5) ∧
                         ((x6 = x6) ∧
                          (((Prod.fst x9, if Prod.snd x9 < (↑(ByteArray.size (Prod.fst x9)) : Int) then Prod.snd x9 + (↑(Prod.snd (Utf8.decode (Prod.fst x9) (Int.toNat (Prod.snd x9)))) : Int) else Prod.snd x9) = (Prod.fst x9, if Prod.snd x9 < (↑(ByteArray.size (Prod.fst x9)) : Int) then Prod.snd x9 + (↑(Prod.snd (Utf8.decode (Prod.fst x9) (Int.toNat (Prod.snd x9)))) : Int) else Prod.snd x9)) ∧
                           ((x31 x38 x34 (0 : Int) x36) ∧
                            (x32 x38 x34 (0 : Int) x36 < x32 x33 x34 x35 x36)))))) ∧
                       ((x33 = (2 : Int)) →
                        ∀ x39 : Int,
                        (x39 = litArith BinOp.add IntKind.i64 x33 (1 : Int)) →
                        (x0 = x0) ∧
                        ((x5 = x5) ∧
                         ((x6 = x6) ∧
                          (((Prod.fst x9, if Prod.snd x9 < (↑(ByteArray.size (Prod.fst x9)) : Int) then Prod.snd x9 + (↑(Prod.snd (Utf8.decode (Prod.fst x9) (Int.toNat (Prod.snd x9)))) : Int) else Prod.snd x9) = (Prod.fst x9, if Prod.snd x9 < (↑(ByteArray.size (Prod.fst x9)) : Int) then Prod.snd x9 + (↑(Prod.snd (Utf8.decode (Prod.fst x9) (Int.toNat (Prod.snd x9)))) : Int) else Prod.snd x9)) ∧
                           ((x31 x39 x34 x35 (0 : Int)) ∧
                            (x32 x39 x34 x35 (0 : Int) < x32 x33 x34 x35 x36))))))))) ∧
                    ((litCmp BinOp.lss x33 (3 : Int) = false) →
                     (True) ∧
                     (True →
                      (True) ∧
                      ((rightC (x0, x34, x35, x36) = true) ∧
                       (True))))))))) ∧
               ((litCmp BinOp.neq (Prod.fst (Prod.snd (Prod.snd x5))) (0 : Int) = false) →
                ∀ x40 : Int,
                (x40 = litArith BinOp.andNot IntKind.i64 (Prod.snd (Prod.snd (Prod.snd x5))) (15 : Int)) →
                ((litCmp BinOp.neq x40 (0 : Int) = true) →
                 (True) ∧
                 (False)) ∧
                ((litCmp BinOp.neq x40 (0 : Int) = false) →
                 ∃ x41 : Int → Int → Int → Int → Prop,
                 ∃ x42 : Int → Int → Int → Int → Nat,
                 (x41 (Prod.fst (Prod.snd x5)) x2 x3 x4) ∧
                 (∀ x43 : Int,
                  ∀ x44 : Int,
                  ∀ x45 : Int,
                  ∀ x46 : Int,
                  (x41 x43 x44 x45 x46) →
                  ((litCmp BinOp.lss x43 (3 : Int) = true) →
                   (((0 : Int) ≤ x43) ∧
                    (x43 < (3 : Int))) ∧
                   (((x43 = (0 : Int)) →
                     ∀ x47 : Int,
                     (x47 = litArith BinOp.add IntKind.i64 x43 (1 : Int)) →
                     (x0 = x0) ∧
                     ((x5 = x5) ∧
                      ((x6 = x6) ∧
                       (((Prod.fst x9, if Prod.snd x9 < (↑(ByteArray.size (Prod.fst x9)) : Int) then Prod.snd x9 + (↑(Prod.snd (Utf8.decode (Prod.fst x9) (Int.toNat (Prod.snd x9)))) : Int) else Prod.snd x9) = (Prod.fst x9, if Prod.snd x9 < (↑(ByteArray.size (Prod.fst x9)) : Int) then Prod.snd x9 + (↑(Prod.snd (Utf8.decode (Prod.fst x9) (Int.toNat (Prod.snd x9)))) : Int) else Prod.snd x9)) ∧
                        ((x41 x47 (0 : Int) x45 x46) ∧
                         (x42 x47 (0 : Int) x45 x46 < x42 x43 x44 x45 x46)))))) ∧
                    (((x43 = (1 : Int)) →
                      ∀ x48 : Int,
                      (x48 = litArith BinOp.add IntKind.i64 x43 (1 : Int)) →
                      (x0 = x0) ∧
                      ((x5 = x5) ∧
                       ((x6 = x6) ∧
                        (((Prod.fst x9, if Prod.snd x9 < (↑(ByteArray.size (Prod.fst x9)) : Int) then Prod.snd x9 + (↑(Prod.snd (Utf8.decode (Prod.fst x9) (Int.toNat (Prod.snd x9)))) : Int) else Prod.snd x9) = (Prod.fst x9, if Prod.snd x9 < (↑(ByteArray.size (Prod.fst x9)) : Int) then Prod.snd x9 + (↑(Prod.snd (Utf8.decode (Prod.fst x9) (Int.toNat (Prod.snd x9)))) : Int) else Prod.snd x9)) ∧
                         ((x41 x48 x44 (0 : Int) x46) ∧
                          (x42 x48 x44 (0 : Int) x46 < x42 x43 x44 x45 x46)))))) ∧
                     ((x43 = (2 : Int)) →
                      ∀ x49 : Int,
                      (x49 = litArith BinOp.add IntKind.i64 x43 (1 : Int)) →
                      (x0 = x0) ∧
                      ((x5 = x5) ∧
                       ((x6 = x6) ∧
                        (((Prod.fst x9, if Prod.snd x9 < (↑(ByteArray.size (Prod.fst x9)) : Int) then Prod.snd x9 + (↑(Prod.snd (Utf8.decode (Prod.fst x9) (Int.toNat (Prod.snd x9)))) : Int) else Prod.snd x9) = (Prod.fst x9, if Prod.snd x9 < (↑(ByteArray.size (Prod.fst x9)) : Int) then Prod.snd x9 + (↑(Prod.snd (Utf8.decode (Prod.fst x9) (Int.toNat (Prod.snd x9)))) : Int) else Prod.snd x9)) ∧
                         ((x41 x49 x44 x45 (0 : Int)) ∧
                          (x42 x49 x44 x45 (0 : Int) < x42 x43 x44 x45 x46))))))))) ∧
                  ((litCmp BinOp.lss x43 (3 : Int) = false) →
                   (True) ∧
                   (True →
                    (True) ∧
                    ((rightC (x0, x44, x45, x46) = true) ∧
                     (True)))))))))))))))))))) := by
  intro op other a b c _
  simp only [true_and, and_true, true_implies]
  rintro _ rfl _ rfl
  refine ⟨fun h => ?_, fun h => ?_⟩
  · simp only [Bool.not_eq_true'] at h
    have ho : op < 0 ∨ 12 < op := by simp [isop] at h; omega
    obtain ⟨q1, q2, q3, q4⟩ := out_op ho
    have e : ofF op = (ByteArray.empty, (0 : Int), (0 : Int), (0 : Int)) := by unfold ofF; rw [q1, q2, q3, q4]; rfl
    rw [e]
    refine ⟨fun _ => by simp [rightC, h], fun q => ?_⟩
    rw [same_self] at q
    cases q
  · simp only [Bool.not_eq_false'] at h
    have hb : 0 ≤ op ∧ op < 13 := by simpa [isop] using h
    obtain ⟨f1, f2, f3, f4, f5⟩ := op_facts hb.1 hb.2
    have hn := named_nm hb.1 hb.2
    refine ⟨fun x => x.1 = nm op ∧ 0 ≤ x.2 ∧ x.2 ≤ (nm op).size, fun x => ((nm op).size - x.2).toNat, ⟨rfl, by simp, by simp⟩, ?_⟩
    rintro ⟨s, p⟩ ⟨rfl, hp0, hp1⟩
    simp only at hp0 hp1 ⊢
    refine ⟨fun hp => ⟨hp, ?_⟩, fun hp => ?_⟩
    · have hp := of_decide_eq_true hp
      obtain ⟨l1, l2, l3⟩ := nm_letter hb.1 hb.2 (p := p.toNat) (by omega)
      simp only [gtrT, gtrF, lssT, lssF, leqT, leqF, geqT, geqF, eqlT, eqlF, neqT, neqF, true_and, and_true, true_implies, implies_true, Bool.not_eq_true', Bool.not_eq_false', bne_iff_ne, ne_eq, not_true_eq_false, not_false_eq_true, Int.toNat_natCast, same_self, reduceCtorEq, false_implies, List.nil_append, l3, if_pos hp]
      refine ⟨fun q => by omega, fun _ => ⟨fun q => by omega, fun _ => ?_⟩⟩
      refine ⟨⟨by omega, by omega⟩, by omega⟩
    · have hs : ∀ x : Int, 0 ≤ x → x < 13 → same (nm op) (nm x) = decide (op = x) := fun x h0 h1 => nm_ne hb.1 hb.2 h0 h1
      simp only [ofF, hn, f5, gtrT, gtrF, lssT, lssF, leqT, leqF, geqT, geqF, eqlT, eqlF, neqT, neqF, true_and, and_true, true_implies, implies_true, Bool.not_eq_true', Bool.not_eq_false', bne_iff_ne, ne_eq, not_true_eq_false, not_false_eq_true, Int.toNat_natCast, same_self, reduceCtorEq, false_implies, List.nil_append]
      have key : ∀ (i x y z : Int), cutI op i x y z → ((i < 3) → (((0 : Int) ≤ i) ∧ (i < 3)) ∧ (i = 0 → cutI op (litArith .add .i64 i 1) 0 y z) ∧ (i = 1 → cutI op (litArith .add .i64 i 1) x 0 z) ∧ (i = 2 → cutI op (litArith .add .i64 i 1) x y 0)) ∧ ((3 ≤ i) → rightC (op, x, y, z) = true) := fun i x y z hc => by
        refine ⟨fun h3 => ?_, fun h3 => cutI_right h h3 hc⟩
        obtain ⟨c1, c2, c3, c4⟩ := hc
        rw [addI_ (by omega) (by omega)]
        refine ⟨⟨by omega, h3⟩, fun e => ?_, fun e => ?_, fun e => ?_⟩ <;> subst e
        · exact ⟨by omega, fun _ _ => rfl, fun _ q => by omega, fun _ q => by omega⟩
        · exact ⟨by omega, fun q _ => c2 q (by omega), fun _ _ => rfl, fun _ q => by omega⟩
        · exact ⟨by omega, fun q _ => c2 q (by omega), fun q _ => c3 q (by omega), fun _ _ => rfl⟩
      have key2 : ∀ (i x y z : Int), cutI op i x y z → i < 3 → (3 - litArith .add .i64 i 1).toNat < (3 - i).toNat := fun i x y z hc h3 => by
        have := hc.1
        rw [addI_ (by omega) (by omega)]; omega
      have k0 : cutI op (ar op) a b c := ⟨Int.le_refl _, fun _ _ => by omega, fun _ _ => by omega, fun _ _ => by omega⟩
      have loop : ∃ (x11 : Int → Int → Int → Int → Prop) (x12 : Int → Int → Int → Int → Nat), x11 (ar op) a b c ∧ ∀ (x13 x14 x15 x16 : Int), x11 x13 x14 x15 x16 → (x13 < 3 → (0 ≤ x13 ∧ x13 < 3) ∧ (x13 = 0 → ∀ (x17 : Int), x17 = litArith BinOp.add IntKind.i64 x13 1 → x11 x17 0 x15 x16 ∧ x12 x17 0 x15 x16 < x12 x13 x14 x15 x16) ∧
          (x13 = 1 → ∀ (x18 : Int), x18 = litArith BinOp.add IntKind.i64 x13 1 → x11 x18 x14 0 x16 ∧ x12 x18 x14 0 x16 < x12 x13 x14 x15 x16) ∧ (x13 = 2 → ∀ (x19 : Int), x19 = litArith BinOp.add IntKind.i64 x13 1 → x11 x19 x14 x15 0 ∧ x12 x19 x14 x15 0 < x12 x13 x14 x15 x16)) ∧ (3 ≤ x13 → rightC (op, x14, x15, x16) = true) := by
        refine ⟨cutI op, fun i _ _ _ => (3 - i).toNat, k0, fun i x y z hc => ?_⟩
        obtain ⟨q1, q2⟩ := key i x y z hc
        refine ⟨fun h3 => ?_, q2⟩
        obtain ⟨w1, w2, w3, w4⟩ := q1 h3
        have w5 := key2 i x y z hc h3
        exact ⟨w1, fun e _ p => by rw [p]; exact ⟨w2 e, w5⟩, fun e _ p => by rw [p]; exact ⟨w3 e, w5⟩, fun e _ p => by rw [p]; exact ⟨w4 e, w5⟩⟩
      have tail : ((ar op < 0 → False) ∧ (0 ≤ ar op → (3 < ar op → False) ∧ (ar op ≤ 3 → True))) := ⟨fun q => by omega, fun _ => ⟨fun q => by omega, fun _ => trivial⟩⟩
      refine ⟨fun ho => ⟨fun q => ?_, fun _ => ?_⟩, fun _ => ?_⟩
      · have hb2 : 0 ≤ other ∧ other < 13 := by simpa [isop] using ho
        rw [hs other hb2.1 hb2.2] at q
        simp only [litCmp] at q
        exact absurd q (by by_cases e : op = other <;> simp [e])
      all_goals
        refine ⟨fun q => f1 (by omega), fun _ => ⟨fun q => by omega, fun _ => ⟨fun q => by omega, fun _ => ⟨fun hk => ⟨fun q => (f4 hk).1 q, fun _ => ⟨fun q => (f4 hk).2 q, fun _ => ?_⟩⟩, fun _ => ?_⟩⟩⟩⟩
        all_goals
          rintro _ rfl
          exact ⟨fun q => q rfl, fun _ => loop⟩
set_option maxRecDepth 10000 in
theorem callNames_ok : conCallNames.ok KK Try.prog 6 := by
  refine Con.of_vc ([(0, ⟨[], [], [], [], [0]⟩), (2, ⟨[], [(20, .d (.i .i64))], [(2, .ls [.d (.i .u64), .d (.i .u64), .d (.i .u64)])], [], []⟩)]) ([]) TT_ok follows Try.func6 ?_ G17_ok (@toVC _ _ callNames_vc ?_)
  · kernel_rfl
  · kernel_rfl
noncomputable def G18 : List (FuncId × Con) := (6, conCallNames) :: G17
theorem G18_ok : GOK KK Try.prog G18 := GOK.cons (Callable.of Try.func6 (by kernel_rfl) (by kernel_rfl)) callNames_ok G17_ok
end Go.Proofs.Ytkhbodngiodklaa
