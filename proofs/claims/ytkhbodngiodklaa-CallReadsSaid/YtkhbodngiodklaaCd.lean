/- The law CallForms. -/
import Derived.Test.YtkhbodngiodklaaCc
set_option linter.all false
namespace Go.Proofs.Ytkhbodngiodklaa
open Go Go.Dx

set_option maxRecDepth 10000 in
theorem forms_vc :
  ∀ x0 : Int,
  ∀ x1 : Int,
  ∀ x2 : Int,
  ∀ x3 : Int,
  ∀ x4 : ByteArray,
  True →
  (True) ∧
  (True →
   (True) ∧
   (True →
    (litCmp BinOp.geq x0 (0 : Int) = true →
     ((!isop x0 == litCmp BinOp.lss x0 (13 : Int)) = true →
      (True) ∧
      (False)) ∧
     ((!isop x0 == litCmp BinOp.lss x0 (13 : Int)) = false →
      ((!isop x0) = true →
       ((!(seqS (nm x0) { data := #[] } && (ar x0 == (0 : Int) && (kd x0 == (0 : Int) && rt x0 == (0 : Int))))) = true →
        (True) ∧
        (False)) ∧
       ((!(seqS (nm x0) { data := #[] } && (ar x0 == (0 : Int) && (kd x0 == (0 : Int) && rt x0 == (0 : Int))))) = false →
        (isop x0 = true →
         False) ∧
        (isop x0 = false →
         (True) ∧
         (True →
          ∃ x5 : List U → Prop,
          ∃ x6 : List U → Nat,
          ((x4 = x4) ∧
           (((-1 : Int) = (-1 : Int)) ∧
            (((0 : Int) = (0 : Int)) ∧
             ((x0 = x0) ∧
              ((x1 = x1) ∧
               ((x2 = x2) ∧
                ((x3 = x3) ∧
                 ((nm x0 = nm x0) ∧
                  ((ar x0 = ar x0) ∧
                   ((kd x0 = kd x0) ∧
                    ((rt x0 = rt x0) ∧
                     ((nmN = nmN) ∧
                      (x5 [U.i (-1 : Int), U.i (0 : Int)]))))))))))))) ∧
          (∀ x7 : Int,
           ∀ x8 : Int,
           x5 [U.i x7, U.i x8] →
           (litCmp BinOp.lss x8 (13 : Int) = true →
            (((0 : Int) ≤ x8) ∧
             (x8 < (13 : Int))) ∧
            ((seqS (nmN (Int.toNat x8)) x4 = true →
              (x4 = x4) ∧
              ((x8 = x8) ∧
               ((litArith BinOp.add IntKind.i64 x8 (1 : Int) = litArith BinOp.add IntKind.i64 x8 (1 : Int)) ∧
                ((x0 = x0) ∧
                 ((x1 = x1) ∧
                  ((x2 = x2) ∧
                   ((x3 = x3) ∧
                    ((nm x0 = nm x0) ∧
                     ((ar x0 = ar x0) ∧
                      ((kd x0 = kd x0) ∧
                       ((rt x0 = rt x0) ∧
                        ((nmN = nmN) ∧
                         ((x5 [U.i x8, U.i (litArith BinOp.add IntKind.i64 x8 (1 : Int))]) ∧
                          (x6 [U.i x8, U.i (litArith BinOp.add IntKind.i64 x8 (1 : Int))] < x6 [U.i x7, U.i x8])))))))))))))) ∧
             (seqS (nmN (Int.toNat x8)) x4 = false →
              (x4 = x4) ∧
              ((x7 = x7) ∧
               ((litArith BinOp.add IntKind.i64 x8 (1 : Int) = litArith BinOp.add IntKind.i64 x8 (1 : Int)) ∧
                ((x0 = x0) ∧
                 ((x1 = x1) ∧
                  ((x2 = x2) ∧
                   ((x3 = x3) ∧
                    ((nm x0 = nm x0) ∧
                     ((ar x0 = ar x0) ∧
                      ((kd x0 = kd x0) ∧
                       ((rt x0 = rt x0) ∧
                        ((nmN = nmN) ∧
                         ((x5 [U.i x7, U.i (litArith BinOp.add IntKind.i64 x8 (1 : Int))]) ∧
                          (x6 [U.i x7, U.i (litArith BinOp.add IntKind.i64 x8 (1 : Int))] < x6 [U.i x7, U.i x8])))))))))))))))) ∧
           (litCmp BinOp.lss x8 (13 : Int) = false →
            (True) ∧
            (True →
             ((Prod.snd (named x4) == litCmp BinOp.geq x7 (0 : Int)) = true →
              (litCmp BinOp.eql (Prod.fst (named x4)) (if x7 < (0 : Int) then (0 : Int) else x7) = true →
               (True) ∧
               (True →
                (True) ∧
                (True →
                 (True) ∧
                 (((rightB x0 x1 x2 x3 == rightB x0 x1 x2 x3) = true) ∧
                  (True))))) ∧
              (litCmp BinOp.eql (Prod.fst (named x4)) (if x7 < (0 : Int) then (0 : Int) else x7) = false →
               (True) ∧
               (False))) ∧
             ((Prod.snd (named x4) == litCmp BinOp.geq x7 (0 : Int)) = false →
              (True) ∧
              (False))))))))) ∧
      ((!isop x0) = false →
       (isop x0 = true →
        (True) ∧
        (True →
         (((0 : Int) ≤ x0) ∧
          (x0 < (13 : Int))) ∧
         ((True) ∧
          (True →
           (((0 : Int) ≤ x0) ∧
            (x0 < (13 : Int))) ∧
           ((True) ∧
            (True →
             (((0 : Int) ≤ x0) ∧
              (x0 < (13 : Int))) ∧
             ((True) ∧
              (True →
               (((0 : Int) ≤ x0) ∧
                (x0 < (13 : Int))) ∧
               (((!(seqS (nm x0) (nmN (Int.toNat x0)) && (ar x0 == arN (Int.toNat x0) && (kd x0 == kdN (Int.toNat x0) && rt x0 == rtN (Int.toNat x0))))) = true →
                 (True) ∧
                 (False)) ∧
                ((!(seqS (nm x0) (nmN (Int.toNat x0)) && (ar x0 == arN (Int.toNat x0) && (kd x0 == kdN (Int.toNat x0) && rt x0 == rtN (Int.toNat x0))))) = false →
                 (True) ∧
                 (True →
                  ∃ x9 : List U → Prop,
                  ∃ x10 : List U → Nat,
                  ((x4 = x4) ∧
                   (((-1 : Int) = (-1 : Int)) ∧
                    (((0 : Int) = (0 : Int)) ∧
                     ((x0 = x0) ∧
                      ((x1 = x1) ∧
                       ((x2 = x2) ∧
                        ((x3 = x3) ∧
                         ((nm x0 = nm x0) ∧
                          ((ar x0 = ar x0) ∧
                           ((kd x0 = kd x0) ∧
                            ((rt x0 = rt x0) ∧
                             ((nmN = nmN) ∧
                              ((arN = arN) ∧
                               ((kdN = kdN) ∧
                                ((rtN = rtN) ∧
                                 ((nmN = nmN) ∧
                                  (x9 [U.i (-1 : Int), U.i (0 : Int)]))))))))))))))))) ∧
                  (∀ x11 : Int,
                   ∀ x12 : Int,
                   x9 [U.i x11, U.i x12] →
                   (litCmp BinOp.lss x12 (13 : Int) = true →
                    (((0 : Int) ≤ x12) ∧
                     (x12 < (13 : Int))) ∧
                    ((seqS (nmN (Int.toNat x12)) x4 = true →
                      (x4 = x4) ∧
                      ((x12 = x12) ∧
                       ((litArith BinOp.add IntKind.i64 x12 (1 : Int) = litArith BinOp.add IntKind.i64 x12 (1 : Int)) ∧
                        ((x0 = x0) ∧
                         ((x1 = x1) ∧
                          ((x2 = x2) ∧
                           ((x3 = x3) ∧
                            ((nm x0 = nm x0) ∧
                             ((ar x0 = ar x0) ∧
                              ((kd x0 = kd x0) ∧
                               ((rt x0 = rt x0) ∧
                                ((nmN = nmN) ∧
                                 ((arN = arN) ∧
                                  ((kdN = kdN) ∧
                                   ((rtN = rtN) ∧
                                    ((nmN = nmN) ∧
                                     ((x9 [U.i x12, U.i (litArith BinOp.add IntKind.i64 x12 (1 : Int))]) ∧
                                      (x10 [U.i x12, U.i (litArith BinOp.add IntKind.i64 x12 (1 : Int))] < x10 [U.i x11, U.i x12])))))))))))))))))) ∧
                     (seqS (nmN (Int.toNat x12)) x4 = false →
                      (x4 = x4) ∧
                      ((x11 = x11) ∧
                       ((litArith BinOp.add IntKind.i64 x12 (1 : Int) = litArith BinOp.add IntKind.i64 x12 (1 : Int)) ∧
                        ((x0 = x0) ∧
                         ((x1 = x1) ∧
                          ((x2 = x2) ∧
                           ((x3 = x3) ∧
                            ((nm x0 = nm x0) ∧
                             ((ar x0 = ar x0) ∧
                              ((kd x0 = kd x0) ∧
                               ((rt x0 = rt x0) ∧
                                ((nmN = nmN) ∧
                                 ((arN = arN) ∧
                                  ((kdN = kdN) ∧
                                   ((rtN = rtN) ∧
                                    ((nmN = nmN) ∧
                                     ((x9 [U.i x11, U.i (litArith BinOp.add IntKind.i64 x12 (1 : Int))]) ∧
                                      (x10 [U.i x11, U.i (litArith BinOp.add IntKind.i64 x12 (1 : Int))] < x10 [U.i x11, U.i x12])))))))))))))))))))) ∧
                   (litCmp BinOp.lss x12 (13 : Int) = false →
                    (True) ∧
                    (True →
                     ((Prod.snd (named x4) == litCmp BinOp.geq x11 (0 : Int)) = true →
                      (litCmp BinOp.eql (Prod.fst (named x4)) (if x11 < (0 : Int) then (0 : Int) else x11) = true →
                       (True) ∧
                       (True →
                        (True) ∧
                        (True →
                         (True) ∧
                         (((rightB x0 x1 x2 x3 == rightB x0 x1 x2 x3) = true) ∧
                          (True))))) ∧
                      (litCmp BinOp.eql (Prod.fst (named x4)) (if x11 < (0 : Int) then (0 : Int) else x11) = false →
                       (True) ∧
                       (False))) ∧
                     ((Prod.snd (named x4) == litCmp BinOp.geq x11 (0 : Int)) = false →
                      (True) ∧
                      (False)))))))))))))))) ∧
       (isop x0 = false →
        False)))) ∧
    (litCmp BinOp.geq x0 (0 : Int) = false →
     ((!isop x0 == false) = true →
      (True) ∧
      (False)) ∧
     ((!isop x0 == false) = false →
      ((!isop x0) = true →
       ((!(seqS (nm x0) { data := #[] } && (ar x0 == (0 : Int) && (kd x0 == (0 : Int) && rt x0 == (0 : Int))))) = true →
        (True) ∧
        (False)) ∧
       ((!(seqS (nm x0) { data := #[] } && (ar x0 == (0 : Int) && (kd x0 == (0 : Int) && rt x0 == (0 : Int))))) = false →
        (isop x0 = true →
         False) ∧
        (isop x0 = false →
         (True) ∧
         (True →
          ∃ x13 : List U → Prop,
          ∃ x14 : List U → Nat,
          ((x4 = x4) ∧
           (((-1 : Int) = (-1 : Int)) ∧
            (((0 : Int) = (0 : Int)) ∧
             ((x0 = x0) ∧
              ((x1 = x1) ∧
               ((x2 = x2) ∧
                ((x3 = x3) ∧
                 ((nm x0 = nm x0) ∧
                  ((ar x0 = ar x0) ∧
                   ((kd x0 = kd x0) ∧
                    ((rt x0 = rt x0) ∧
                     ((nmN = nmN) ∧
                      (x13 [U.i (-1 : Int), U.i (0 : Int)]))))))))))))) ∧
          (∀ x15 : Int,
           ∀ x16 : Int,
           x13 [U.i x15, U.i x16] →
           (litCmp BinOp.lss x16 (13 : Int) = true →
            (((0 : Int) ≤ x16) ∧
             (x16 < (13 : Int))) ∧
            ((seqS (nmN (Int.toNat x16)) x4 = true →
              (x4 = x4) ∧
              ((x16 = x16) ∧
               ((litArith BinOp.add IntKind.i64 x16 (1 : Int) = litArith BinOp.add IntKind.i64 x16 (1 : Int)) ∧
                ((x0 = x0) ∧
                 ((x1 = x1) ∧
                  ((x2 = x2) ∧
                   ((x3 = x3) ∧
                    ((nm x0 = nm x0) ∧
                     ((ar x0 = ar x0) ∧
                      ((kd x0 = kd x0) ∧
                       ((rt x0 = rt x0) ∧
                        ((nmN = nmN) ∧
                         ((x13 [U.i x16, U.i (litArith BinOp.add IntKind.i64 x16 (1 : Int))]) ∧
                          (x14 [U.i x16, U.i (litArith BinOp.add IntKind.i64 x16 (1 : Int))] < x14 [U.i x15, U.i x16])))))))))))))) ∧
             (seqS (nmN (Int.toNat x16)) x4 = false →
              (x4 = x4) ∧
              ((x15 = x15) ∧
               ((litArith BinOp.add IntKind.i64 x16 (1 : Int) = litArith BinOp.add IntKind.i64 x16 (1 : Int)) ∧
                ((x0 = x0) ∧
                 ((x1 = x1) ∧
                  ((x2 = x2) ∧
                   ((x3 = x3) ∧
                    ((nm x0 = nm x0) ∧
                     ((ar x0 = ar x0) ∧
                      ((kd x0 = kd x0) ∧
                       ((rt x0 = rt x0) ∧
                        ((nmN = nmN) ∧
                         ((x13 [U.i x15, U.i (litArith BinOp.add IntKind.i64 x16 (1 : Int))]) ∧
                          (x14 [U.i x15, U.i (litArith BinOp.add IntKind.i64 x16 (1 : Int))] < x14 [U.i x15, U.i x16])))))))))))))))) ∧
           (litCmp BinOp.lss x16 (13 : Int) = false →
            (True) ∧
            (True →
             ((Prod.snd (named x4) == litCmp BinOp.geq x15 (0 : Int)) = true →
              (litCmp BinOp.eql (Prod.fst (named x4)) (if x15 < (0 : Int) then (0 : Int) else x15) = true →
               (True) ∧
               (True →
                (True) ∧
                (True →
                 (True) ∧
                 (((rightB x0 x1 x2 x3 == rightB x0 x1 x2 x3) = true) ∧
                  (True))))) ∧
              (litCmp BinOp.eql (Prod.fst (named x4)) (if x15 < (0 : Int) then (0 : Int) else x15) = false →
               (True) ∧
               (False))) ∧
             ((Prod.snd (named x4) == litCmp BinOp.geq x15 (0 : Int)) = false →
              (True) ∧
              (False))))))))) ∧
      ((!isop x0) = false →
       False))))) := by
  intro op a b c name _
  have hf : isop op = false → nm op = ⟨#[]⟩ ∧ ar op = 0 ∧ kd op = 0 ∧ rt op = 0 := fun h => out_op (by simp [isop] at h; omega)
  have hin : isop op = true → 0 ≤ op ∧ op < 13 := fun h => by simpa [isop] using h
  have hk : isop op = true → nmN op.toNat = nm op ∧ arN op.toNat = ar op ∧ kdN op.toNat = kd op ∧ rtN op.toNat = rt op := fun h => by
    simp [nmN, arN, kdN, rtN, Int.toNat_of_nonneg (hin h).1]
  refine ⟨trivial, fun _ => ⟨trivial, fun _ => ⟨fun h0 => ⟨fun e => ⟨trivial, ?_⟩, fun e0 => ⟨fun hi => ⟨fun e => ⟨trivial, ?_⟩, fun _ => ⟨fun hi' => ?_, fun _ => ⟨trivial, fun _ => ?_⟩⟩⟩, fun hi => ⟨fun hi' => ⟨trivial, fun _ => ⟨hin hi', trivial, fun _ => ⟨hin hi', trivial, fun _ => ⟨hin hi', trivial, fun _ => ⟨hin hi', fun e => ⟨trivial, ?_⟩, fun _ => ⟨trivial, fun _ => ?_⟩⟩⟩⟩⟩⟩, fun hi' => ?_⟩⟩⟩, fun h0 => ⟨fun e => ⟨trivial, ?_⟩, fun e0 => ⟨fun hi => ⟨fun e => ⟨trivial, ?_⟩, fun _ => ⟨fun hi' => ?_, fun _ => ⟨trivial, fun _ => ?_⟩⟩⟩, fun hi => ?_⟩⟩⟩⟩⟩
  · have h0' : 0 ≤ op := by simpa [litCmp] using h0
    simp [litCmp, isop, h0'] at e
  · have := hf (by simpa using hi)
    simp [this, seqS] at e
  · simp [hi'] at hi
  rotate_left
  · simp [hk hi', seqS] at e
  rotate_left
  · simp [hi'] at hi
  · have h0' : op < 0 := by simpa [litCmp] using h0
    have : isop op = false := by simp [isop]; omega
    simp [this] at e
  · have := hf (by simpa using hi)
    simp [this, seqS] at e
  · simp [hi'] at hi
  rotate_left
  · have h0' : op < 0 := by simpa [litCmp] using h0
    have : isop op = false := by simp [isop]; omega
    simp [this] at hi
  all_goals
    simp only [true_and, and_true, true_implies]
    refine ⟨Inv2 fun at_ k => 0 ≤ k ∧ k ≤ 13 ∧ at_ = atI name k.toNat, mu2 fun _ k => (13 - k).toNat, ⟨by omega, by omega, rfl⟩, ?_⟩
    rintro at_ k ⟨k0, k1, ka⟩
    refine ⟨fun hk => ?_, fun hk => ?_⟩
    · have k2 : k < 13 := by simpa [litCmp] using hk
      have e1 : litArith .add .i64 k 1 = k + 1 := addI64 (by omega) (by omega)
      have e2 : (k + 1).toNat = k.toNat + 1 := by omega
      have eN : nmN k.toNat = nm k := by simp [nmN, Int.toNat_of_nonneg k0]
      rw [e1, eN]
      refine ⟨⟨k0, k2⟩, fun hq => ⟨⟨by omega, by omega, ?_⟩, ?_⟩, fun hq => ⟨⟨by omega, by omega, ?_⟩, ?_⟩⟩
      · have hq' : eqs (nm k) name = true := hq
        rw [e2]; simp [atI, Int.toNat_of_nonneg k0, hq']
      · show (13 - (k + 1)).toNat < (13 - k).toNat; omega
      · have hq' : eqs (nm k) name = false := hq
        rw [e2]; simp [atI, Int.toNat_of_nonneg k0, hq', ka]
      · show (13 - (k + 1)).toNat < (13 - k).toNat; omega
    · have k2 : k = 13 := by simp [litCmp] at hk; omega
      subst k2
      replace ka : atI name 13 = at_ := ka.symm
      obtain ⟨q1, q2⟩ := at_named name
      rw [ka] at q1 q2
      rw [q1, q2]
      simp [litCmp]
      omega
set_option maxRecDepth 10000 in
theorem forms_ok : conForms.ok Try.prog 3 := by
  refine Con.of_vc ([(0, ⟨[], [(7, .i .i64), (67, .i .i64)], [], []⟩)]) ([[true, false, true, false, true], [false, false, false, true], [true, false, true, false, false], [false, false, false]]) TT_ok follows Try.func3 ?_ G17_ok (@toVC _ _ forms_vc ?_)
  · kernel_rfl
  · kernel_rfl
noncomputable def G18 : List (FuncId × Con) := (3, conForms) :: G17
theorem G18_ok : GOK Try.prog G18 := GOK.cons (Callable.of Try.func3 (by kernel_rfl) (by kernel_rfl)) forms_ok rfl G17_ok
end Go.Proofs.Ytkhbodngiodklaa
