/- What the functions of package wire do. -/
import Derived.Test.YtkhbodngiodklaaWa
set_option linter.all false
namespace Go.Proofs.Ytkhbodngiodklaa
open Go Go.Fx
theorem same_mk {α β : Type} {a a' : α} {b b' : β} : same (a, b) (a', b') = (same a a' && same b b') := by
  rw [Bool.eq_iff_iff]; simp [same_iff]
theorem same_int {a b : Int} : same a b = (a == b) := by rw [Bool.eq_iff_iff]; simp [same_iff]

theorem bsE_len (e : En) : (bsE e).length ≤ 27 := by
  unfold bsE
  split
  · simp
  · split
    · simp
    · simp [callL_len]
theorem allE_len (l : List En) {n : Nat} (h : l.length ≤ n) : (allE l).length ≤ 28 * n := by
  induction l generalizing n with
  | nil => simp [allE]
  | cons e l ih =>
    have := bsE_len e
    have h2 := ih (n := n - 1) (by simp at h; omega)
    simp only [allE, List.flatMap_cons, List.length_append, cbE, List.length_cons] at h2 ⊢
    simp at h
    omega

theorem take_ix {α : Type} [Inhabited α] {l : List α} {i : Int} (h0 : 0 ≤ i) (hi : i < l.length) : l.take (i + 1).toNat = l.take i.toNat ++ [ix l i] := by
  rw [show (i + 1).toNat = i.toNat + 1 from by omega, List.take_add_one]
  have : l[i.toNat]? = some (ix l i) := by
    unfold ix
    rw [List.getD_eq_getElem?_getD, List.getElem?_eq_getElem (by omega)]
    rfl
  simp [this]
theorem ix_mem {α : Type} [Inhabited α] {l : List α} {i : Int} (h0 : 0 ≤ i) (hi : i < l.length) : ix l i ∈ l := by
  unfold ix
  rw [List.getD_eq_getElem?_getD, List.getElem?_eq_getElem (by omega)]
  exact List.getElem_mem _
theorem cbE_len (e : En) : (cbE e).length ≤ 28 := by
  have := bsE_len e
  simp [cbE]; omega

set_option maxRecDepth 10000 in
theorem eright_vc :
  ∀ x0 : Int × Int × Int × (Int × Int × Int × Int) × Int × Int,
  True →
  ((litCmp BinOp.eql (Prod.fst x0) (0 : Int) = true) →
   ((litCmp BinOp.geq (Prod.fst (Prod.snd (Prod.snd x0))) (1 : Int) = true) →
    ((litCmp BinOp.leq (Prod.fst (Prod.snd (Prod.snd x0))) (100 : Int) = true) →
     (True) ∧
     ((same x0 ((0 : Int), (0 : Int), Prod.fst (Prod.snd (Prod.snd x0)), ((0 : Int), (0 : Int), (0 : Int), (0 : Int)), (0 : Int), (0 : Int)) = rightE x0) ∧
      (True))) ∧
    ((litCmp BinOp.leq (Prod.fst (Prod.snd (Prod.snd x0))) (100 : Int) = false) →
     (True) ∧
     ((false = rightE x0) ∧
      (True)))) ∧
   ((litCmp BinOp.geq (Prod.fst (Prod.snd (Prod.snd x0))) (1 : Int) = false) →
    (True) ∧
    ((false = rightE x0) ∧
     (True)))) ∧
  ((litCmp BinOp.eql (Prod.fst x0) (0 : Int) = false) →
   ((litCmp BinOp.eql (Prod.fst x0) (1 : Int) = true) →
    ((litCmp BinOp.geq (Prod.fst (Prod.snd x0)) (0 : Int) = true) →
     ((litCmp BinOp.leq (Prod.fst (Prod.snd x0)) (255 : Int) = true) →
      (True) ∧
      (True →
       ((rightC (Prod.fst (Prod.snd (Prod.snd (Prod.snd x0)))) = true) →
        (True) ∧
        ((same x0 ((1 : Int), Prod.fst (Prod.snd x0), (0 : Int), Prod.fst (Prod.snd (Prod.snd (Prod.snd x0))), (0 : Int), (0 : Int)) = rightE x0) ∧
         (True))) ∧
       ((rightC (Prod.fst (Prod.snd (Prod.snd (Prod.snd x0)))) = false) →
        (True) ∧
        ((false = rightE x0) ∧
         (True))))) ∧
     ((litCmp BinOp.leq (Prod.fst (Prod.snd x0)) (255 : Int) = false) →
      (True) ∧
      ((false = rightE x0) ∧
       (True)))) ∧
    ((litCmp BinOp.geq (Prod.fst (Prod.snd x0)) (0 : Int) = false) →
     (True) ∧
     ((false = rightE x0) ∧
      (True)))) ∧
   ((litCmp BinOp.eql (Prod.fst x0) (1 : Int) = false) →
    ((litCmp BinOp.eql (Prod.fst x0) (2 : Int) = true) →
     ((litCmp BinOp.geq (Prod.fst (Prod.snd x0)) (0 : Int) = true) →
      ((litCmp BinOp.leq (Prod.fst (Prod.snd x0)) (255 : Int) = true) →
       ((litCmp BinOp.geq (Prod.fst (Prod.snd (Prod.snd (Prod.snd (Prod.snd x0))))) (0 : Int) = true) →
        ((litCmp BinOp.leq (Prod.fst (Prod.snd (Prod.snd (Prod.snd (Prod.snd x0))))) (255 : Int) = true) →
         ((litCmp BinOp.geq (Prod.snd (Prod.snd (Prod.snd (Prod.snd (Prod.snd x0))))) (1 : Int) = true) →
          ((litCmp BinOp.leq (Prod.snd (Prod.snd (Prod.snd (Prod.snd (Prod.snd x0))))) (7 : Int) = true) →
           (True) ∧
           ((same x0 ((2 : Int), Prod.fst (Prod.snd x0), (0 : Int), ((0 : Int), (0 : Int), (0 : Int), (0 : Int)), Prod.fst (Prod.snd (Prod.snd (Prod.snd (Prod.snd x0)))), Prod.snd (Prod.snd (Prod.snd (Prod.snd (Prod.snd x0))))) = rightE x0) ∧
            (True))) ∧
          ((litCmp BinOp.leq (Prod.snd (Prod.snd (Prod.snd (Prod.snd (Prod.snd x0))))) (7 : Int) = false) →
           (True) ∧
           ((false = rightE x0) ∧
            (True)))) ∧
         ((litCmp BinOp.geq (Prod.snd (Prod.snd (Prod.snd (Prod.snd (Prod.snd x0))))) (1 : Int) = false) →
          (True) ∧
          ((false = rightE x0) ∧
           (True)))) ∧
        ((litCmp BinOp.leq (Prod.fst (Prod.snd (Prod.snd (Prod.snd (Prod.snd x0))))) (255 : Int) = false) →
         (True) ∧
         ((false = rightE x0) ∧
          (True)))) ∧
       ((litCmp BinOp.geq (Prod.fst (Prod.snd (Prod.snd (Prod.snd (Prod.snd x0))))) (0 : Int) = false) →
        (True) ∧
        ((false = rightE x0) ∧
         (True)))) ∧
      ((litCmp BinOp.leq (Prod.fst (Prod.snd x0)) (255 : Int) = false) →
       (True) ∧
       ((false = rightE x0) ∧
        (True)))) ∧
     ((litCmp BinOp.geq (Prod.fst (Prod.snd x0)) (0 : Int) = false) →
      (True) ∧
      ((false = rightE x0) ∧
       (True)))) ∧
    ((litCmp BinOp.eql (Prod.fst x0) (2 : Int) = false) →
     (True) ∧
     ((false = rightE x0) ∧
      (True))))) := by
  rintro ⟨k, w, n, ⟨op, a, b, c⟩, d, m⟩ _
  simp only [litCmp, beq_iff_eq, beq_eq_false_iff_ne, decide_eq_true_eq, decide_eq_false_iff_not, true_and, and_true, true_implies, rightE, noC, same_mk, same_int]
  repeat' first | refine ⟨?_, ?_⟩ | intro _
  all_goals
    rw [Bool.eq_iff_iff]
    simp_all
    try omega
set_option maxRecDepth 10000 in
theorem eright_ok : conERight.ok KK Try.prog 34 := by
  refine Con.of_vc ([]) ([]) TT_ok follows Try.func34 ?_ G15_ok (@toVC _ _ eright_vc ?_)
  · kernel_rfl
  · kernel_rfl
noncomputable def G16 : List (FuncId × Con) := (34, conERight) :: G15
theorem G16_ok : GOK KK Try.prog G16 := GOK.cons (Callable.of Try.func34 (by kernel_rfl) (by kernel_rfl)) eright_ok G15_ok

set_option maxRecDepth 10000 in
theorem erright_vc :
  ∀ x0 : Int × Int × Int × (Int × Int × Int × Int) × Int × Int,
  True →
  ∀ x1 : Int × Int × Int × Int,
  (x1 = ((0 : Int), (0 : Int), (0 : Int), (0 : Int))) →
  ((litCmp BinOp.geq (Prod.fst (Prod.snd x0)) (0 : Int) = true) →
   ((litCmp BinOp.eql (Prod.fst x0) (0 : Int) = true) →
    ((litCmp BinOp.geq (Prod.fst (Prod.snd (Prod.snd x0))) (1 : Int) = true) →
     ((litCmp BinOp.leq (Prod.fst (Prod.snd (Prod.snd x0))) (100 : Int) = true) →
      ((litCmp BinOp.eql (Prod.fst (Prod.snd x0)) (0 : Int) = true) →
       ((same (Prod.fst (Prod.snd (Prod.snd (Prod.snd x0)))) x1 = true) →
        ((litCmp BinOp.eql (Prod.fst (Prod.snd (Prod.snd (Prod.snd (Prod.snd x0))))) (0 : Int) = true) →
         (True) ∧
         ((litCmp BinOp.eql (Prod.snd (Prod.snd (Prod.snd (Prod.snd (Prod.snd x0))))) (0 : Int) = rightE x0) ∧
          (True))) ∧
        ((litCmp BinOp.eql (Prod.fst (Prod.snd (Prod.snd (Prod.snd (Prod.snd x0))))) (0 : Int) = false) →
         (True) ∧
         ((false = rightE x0) ∧
          (True)))) ∧
       ((same (Prod.fst (Prod.snd (Prod.snd (Prod.snd x0)))) x1 = false) →
        (True) ∧
        ((false = rightE x0) ∧
         (True)))) ∧
      ((litCmp BinOp.eql (Prod.fst (Prod.snd x0)) (0 : Int) = false) →
       (True) ∧
       ((false = rightE x0) ∧
        (True)))) ∧
     ((litCmp BinOp.leq (Prod.fst (Prod.snd (Prod.snd x0))) (100 : Int) = false) →
      (True) ∧
      ((false = rightE x0) ∧
       (True)))) ∧
    ((litCmp BinOp.geq (Prod.fst (Prod.snd (Prod.snd x0))) (1 : Int) = false) →
     (True) ∧
     ((false = rightE x0) ∧
      (True)))) ∧
   ((litCmp BinOp.eql (Prod.fst x0) (0 : Int) = false) →
    ((litCmp BinOp.eql (Prod.fst x0) (1 : Int) = true) →
     ((litCmp BinOp.lss (Prod.fst (Prod.snd x0)) (256 : Int) = true) →
      (True) ∧
      (True →
       ((rightC (Prod.fst (Prod.snd (Prod.snd (Prod.snd x0)))) = true) →
        ((litCmp BinOp.eql (Prod.fst (Prod.snd (Prod.snd x0))) (0 : Int) = true) →
         ((litCmp BinOp.eql (Prod.fst (Prod.snd (Prod.snd (Prod.snd (Prod.snd x0))))) (0 : Int) = true) →
          (True) ∧
          ((litCmp BinOp.eql (Prod.snd (Prod.snd (Prod.snd (Prod.snd (Prod.snd x0))))) (0 : Int) = rightE x0) ∧
           (True))) ∧
         ((litCmp BinOp.eql (Prod.fst (Prod.snd (Prod.snd (Prod.snd (Prod.snd x0))))) (0 : Int) = false) →
          (True) ∧
          ((false = rightE x0) ∧
           (True)))) ∧
        ((litCmp BinOp.eql (Prod.fst (Prod.snd (Prod.snd x0))) (0 : Int) = false) →
         (True) ∧
         ((false = rightE x0) ∧
          (True)))) ∧
       ((rightC (Prod.fst (Prod.snd (Prod.snd (Prod.snd x0)))) = false) →
        (True) ∧
        ((false = rightE x0) ∧
         (True))))) ∧
     ((litCmp BinOp.lss (Prod.fst (Prod.snd x0)) (256 : Int) = false) →
      (True) ∧
      ((false = rightE x0) ∧
       (True)))) ∧
    ((litCmp BinOp.eql (Prod.fst x0) (1 : Int) = false) →
     ((litCmp BinOp.eql (Prod.fst x0) (2 : Int) = true) →
      ((litCmp BinOp.lss (Prod.fst (Prod.snd x0)) (256 : Int) = true) →
       ((litCmp BinOp.geq (Prod.fst (Prod.snd (Prod.snd (Prod.snd (Prod.snd x0))))) (0 : Int) = true) →
        ((litCmp BinOp.lss (Prod.fst (Prod.snd (Prod.snd (Prod.snd (Prod.snd x0))))) (256 : Int) = true) →
         ((litCmp BinOp.geq (Prod.snd (Prod.snd (Prod.snd (Prod.snd (Prod.snd x0))))) (1 : Int) = true) →
          ((litCmp BinOp.leq (Prod.snd (Prod.snd (Prod.snd (Prod.snd (Prod.snd x0))))) (7 : Int) = true) →
           ((litCmp BinOp.eql (Prod.fst (Prod.snd (Prod.snd x0))) (0 : Int) = true) →
            (True) ∧
            ((same (Prod.fst (Prod.snd (Prod.snd (Prod.snd x0)))) x1 = rightE x0) ∧
             (True))) ∧
           ((litCmp BinOp.eql (Prod.fst (Prod.snd (Prod.snd x0))) (0 : Int) = false) →
            (True) ∧
            ((false = rightE x0) ∧
             (True)))) ∧
          ((litCmp BinOp.leq (Prod.snd (Prod.snd (Prod.snd (Prod.snd (Prod.snd x0))))) (7 : Int) = false) →
           (True) ∧
           ((false = rightE x0) ∧
            (True)))) ∧
         ((litCmp BinOp.geq (Prod.snd (Prod.snd (Prod.snd (Prod.snd (Prod.snd x0))))) (1 : Int) = false) →
          (True) ∧
          ((false = rightE x0) ∧
           (True)))) ∧
        ((litCmp BinOp.lss (Prod.fst (Prod.snd (Prod.snd (Prod.snd (Prod.snd x0))))) (256 : Int) = false) →
         (True) ∧
         ((false = rightE x0) ∧
          (True)))) ∧
       ((litCmp BinOp.geq (Prod.fst (Prod.snd (Prod.snd (Prod.snd (Prod.snd x0))))) (0 : Int) = false) →
        (True) ∧
        ((false = rightE x0) ∧
         (True)))) ∧
      ((litCmp BinOp.lss (Prod.fst (Prod.snd x0)) (256 : Int) = false) →
       (True) ∧
       ((false = rightE x0) ∧
        (True)))) ∧
     ((litCmp BinOp.eql (Prod.fst x0) (2 : Int) = false) →
      (True) ∧
      ((false = rightE x0) ∧
       (True)))))) ∧
  ((litCmp BinOp.geq (Prod.fst (Prod.snd x0)) (0 : Int) = false) →
   ((litCmp BinOp.eql (Prod.fst x0) (0 : Int) = true) →
    ((litCmp BinOp.geq (Prod.fst (Prod.snd (Prod.snd x0))) (1 : Int) = true) →
     ((litCmp BinOp.leq (Prod.fst (Prod.snd (Prod.snd x0))) (100 : Int) = true) →
      ((litCmp BinOp.eql (Prod.fst (Prod.snd x0)) (0 : Int) = true) →
       ((same (Prod.fst (Prod.snd (Prod.snd (Prod.snd x0)))) x1 = true) →
        ((litCmp BinOp.eql (Prod.fst (Prod.snd (Prod.snd (Prod.snd (Prod.snd x0))))) (0 : Int) = true) →
         (True) ∧
         ((litCmp BinOp.eql (Prod.snd (Prod.snd (Prod.snd (Prod.snd (Prod.snd x0))))) (0 : Int) = rightE x0) ∧
          (True))) ∧
        ((litCmp BinOp.eql (Prod.fst (Prod.snd (Prod.snd (Prod.snd (Prod.snd x0))))) (0 : Int) = false) →
         (True) ∧
         ((false = rightE x0) ∧
          (True)))) ∧
       ((same (Prod.fst (Prod.snd (Prod.snd (Prod.snd x0)))) x1 = false) →
        (True) ∧
        ((false = rightE x0) ∧
         (True)))) ∧
      ((litCmp BinOp.eql (Prod.fst (Prod.snd x0)) (0 : Int) = false) →
       (True) ∧
       ((false = rightE x0) ∧
        (True)))) ∧
     ((litCmp BinOp.leq (Prod.fst (Prod.snd (Prod.snd x0))) (100 : Int) = false) →
      (True) ∧
      ((false = rightE x0) ∧
       (True)))) ∧
    ((litCmp BinOp.geq (Prod.fst (Prod.snd (Prod.snd x0))) (1 : Int) = false) →
     (True) ∧
     ((false = rightE x0) ∧
      (True)))) ∧
   ((litCmp BinOp.eql (Prod.fst x0) (0 : Int) = false) →
    ((litCmp BinOp.eql (Prod.fst x0) (1 : Int) = true) →
     (True) ∧
     ((false = rightE x0) ∧
      (True))) ∧
    ((litCmp BinOp.eql (Prod.fst x0) (1 : Int) = false) →
     ((litCmp BinOp.eql (Prod.fst x0) (2 : Int) = true) →
      (True) ∧
      ((false = rightE x0) ∧
       (True))) ∧
     ((litCmp BinOp.eql (Prod.fst x0) (2 : Int) = false) →
      (True) ∧
      ((false = rightE x0) ∧
       (True)))))) := by
  rintro ⟨k, w, n, ⟨op, a, b, c⟩, d, m⟩ _
  simp only [litCmp, beq_iff_eq, beq_eq_false_iff_ne, decide_eq_true_eq, decide_eq_false_iff_not, true_and, and_true, true_implies, forall_eq, rightE, noC, same_mk, same_int]
  repeat' first | refine ⟨?_, ?_⟩ | intro _
  all_goals
    rw [Bool.eq_iff_iff]
    simp_all
    try omega
set_option maxRecDepth 10000 in
theorem erright_ok : conERight.ok KK Try.prog 35 := by
  refine Con.of_vc ([]) ([]) TT_ok follows Try.func35 ?_ G16_ok (@toVC _ _ erright_vc ?_)
  · kernel_rfl
  · kernel_rfl
noncomputable def G17 : List (FuncId × Con) := (35, conERight) :: G16
theorem G17_ok : GOK KK Try.prog G17 := GOK.cons (Callable.of Try.func35 (by kernel_rfl) (by kernel_rfl)) erright_ok G16_ok

set_option maxRecDepth 10000 in
theorem body_vc :
  ∀ x0 : Int × Int × Int × (Int × Int × Int × Int) × Int × Int,
  (rightE x0 = true) →
  ((litCmp BinOp.eql (Prod.fst x0) (0 : Int) = true) →
   ∀ x1 : Int,
   (x1 = IntKind.wrap IntKind.u8 (Prod.fst (Prod.snd (Prod.snd x0)))) →
   ∀ x2 : Int,
   (x2 = litArith BinOp.shr IntKind.i64 (Prod.fst (Prod.snd (Prod.snd x0))) (8 : Int)) →
   ∀ x3 : Int,
   (x3 = IntKind.wrap IntKind.u8 x2) →
   (True) ∧
   (([(0 : Int), x1, x3] = bsE x0) ∧
    (((3 : Int) = (↑(List.length (bsE x0)) : Int)) ∧
     (True)))) ∧
  ((litCmp BinOp.eql (Prod.fst x0) (0 : Int) = false) →
   ((litCmp BinOp.eql (Prod.fst x0) (2 : Int) = true) →
    ∀ x4 : Int,
    (x4 = IntKind.wrap IntKind.u8 (Prod.fst (Prod.snd x0))) →
    ∀ x5 : Int,
    (x5 = IntKind.wrap IntKind.u8 (Prod.fst (Prod.snd (Prod.snd (Prod.snd (Prod.snd x0)))))) →
    ∀ x6 : Int,
    (x6 = IntKind.wrap IntKind.u8 (Prod.snd (Prod.snd (Prod.snd (Prod.snd (Prod.snd x0)))))) →
    (True) ∧
    (([(2 : Int), x4, x5, x6] = bsE x0) ∧
     (((4 : Int) = (↑(List.length (bsE x0)) : Int)) ∧
      (True)))) ∧
   ((litCmp BinOp.eql (Prod.fst x0) (2 : Int) = false) →
    (True) ∧
    (True →
     ∀ x7 : Int,
     (x7 = IntKind.wrap IntKind.u8 (Prod.fst (Prod.snd x0))) →
     (((0 : Int) ≤ (2 : Int) + (↑(List.length (if rightC (Prod.fst (Prod.snd (Prod.snd (Prod.snd x0)))) = true then callL (Prod.fst (Prod.snd (Prod.snd (Prod.snd x0)))) else [])) : Int)) ∧
      (((2 : Int) + (↑(List.length (if rightC (Prod.fst (Prod.snd (Prod.snd (Prod.snd x0)))) = true then callL (Prod.fst (Prod.snd (Prod.snd (Prod.snd x0)))) else [])) : Int)) * (1 : Int) ≤ (140737488355328 : Int))) ∧
     (∀ x8 : List Int,
      (x8 = [(1 : Int), x7] ++ if rightC (Prod.fst (Prod.snd (Prod.snd (Prod.snd x0)))) = true then callL (Prod.fst (Prod.snd (Prod.snd (Prod.snd x0)))) else []) →
      (True) ∧
      ((x8 = bsE x0) ∧
       (((2 : Int) + (↑(List.length (if rightC (Prod.fst (Prod.snd (Prod.snd (Prod.snd x0)))) = true then callL (Prod.fst (Prod.snd (Prod.snd (Prod.snd x0)))) else [])) : Int) = (↑(List.length (bsE x0)) : Int)) ∧
        (True))))))) := by
  rintro ⟨k, w, n, ⟨op, a, b, c⟩, d, m⟩ h
  simp only [litCmp, beq_iff_eq, beq_eq_false_iff_ne, true_and, and_true, true_implies, forall_eq, wrap8]
  simp only [rightE, Bool.or_eq_true, Bool.and_eq_true, beq_iff_eq, decide_eq_true_eq] at h
  refine ⟨fun e => ?_, fun e0 => ⟨fun e => ?_, fun e1 => ?_⟩⟩
  · subst e
    simp at h
    have : litArith .shr .i64 n 8 = n / 256 := shr8 n
    simp [bsE, this]
    omega
  · subst e
    simp at h
    simp [bsE]
    omega
  · have e2 : k = 1 := by omega
    subst e2
    simp at h
    simp [bsE, h.1.1.1.2, callL_len]
    omega
set_option maxRecDepth 10000 in
theorem body_ok : conBody.ok KK Try.prog 40 := by
  refine Con.of_vc ([]) ([]) TT_ok follows Try.func40 ?_ G17_ok (@toVC _ _ body_vc ?_)
  · kernel_rfl
  · kernel_rfl
noncomputable def G18 : List (FuncId × Con) := (40, conBody) :: G17
theorem G18_ok : GOK KK Try.prog G18 := GOK.cons (Callable.of Try.func40 (by kernel_rfl) (by kernel_rfl)) body_ok G17_ok

set_option maxRecDepth 10000 in
theorem write_vc :
  ∀ x0 : List (Int × Int × Int × (Int × Int × Int × Int) × Int × Int),
  True →
  ((litCmp BinOp.gtr (↑(List.length x0) : Int) (2048 : Int) = true) →
   (True) ∧
   (((13 : Int) = wrE x0) ∧
    ((wrL x0 = []) ∧
     (((0 : Int) = (↑(List.length (wrL x0)) : Int)) ∧
      (True))))) ∧
  ((litCmp BinOp.gtr (↑(List.length x0) : Int) (2048 : Int) = false) →
   ∃ x1 : Int → List Int → Prop,
   ∃ x2 : Int → List Int → Nat,
   (x1 (0 : Int) []) ∧
   (∀ x3 : Int,
    ∀ x4 : List Int,
    (x1 x3 x4) →
    ((litCmp BinOp.lss x3 (↑(List.length x0) : Int) = true) →
     (((0 : Int) ≤ x3) ∧
      (x3 < (↑(List.length x0) : Int))) ∧
     (∀ x5 : Int × Int × Int × (Int × Int × Int × Int) × Int × Int,
      (x5 = ix x0 x3) →
      ∀ x6 : Int × Int × Int × (Int × Int × Int × Int) × Int × Int,
      (x6 = x5) →
      (True) ∧
      (True →
       (((!rightE x6) = true) →
        (True) ∧
        (((11 : Int) = wrE x0) ∧
         ((wrL x0 = []) ∧
          (((0 : Int) = (↑(List.length (wrL x0)) : Int)) ∧
           (True))))) ∧
       (((!rightE x6) = false) →
        (rightE x6 = true) ∧
        (True →
         ∀ x7 : Int,
         (x7 = IntKind.wrap IntKind.u8 (↑(List.length (bsE x6)) : Int)) →
         (((0 : Int) ≤ (↑(List.length x4) : Int) + (1 : Int)) ∧
          (((↑(List.length x4) : Int) + (1 : Int)) * (1 : Int) ≤ (140737488355328 : Int))) ∧
         (∀ x8 : List Int,
          (x8 = x4 ++ [x7]) →
          (((0 : Int) ≤ (↑(List.length x4) : Int) + (1 : Int) + (↑(List.length (bsE x6)) : Int)) ∧
           (((↑(List.length x4) : Int) + (1 : Int) + (↑(List.length (bsE x6)) : Int)) * (1 : Int) ≤ (140737488355328 : Int))) ∧
          (∀ x9 : List Int,
           (x9 = x8 ++ bsE x6) →
           ∀ x10 : Int,
           (x10 = litArith BinOp.add IntKind.i64 x3 (1 : Int)) →
           (x0 = x0) ∧
           (((↑(List.length x0) : Int) = (↑(List.length x0) : Int)) ∧
            (((↑(List.length x0) : Int) = (↑(List.length x0) : Int)) ∧
             ((x1 x10 x9) ∧
              (x2 x10 x9 < x2 x3 x4))))))))))) ∧
    ((litCmp BinOp.lss x3 (↑(List.length x0) : Int) = false) →
     (True) ∧
     (((0 : Int) = wrE x0) ∧
      ((x4 = wrL x0) ∧
       (((↑(List.length x4) : Int) = (↑(List.length (wrL x0)) : Int)) ∧
        (True))))))) := by
  intro l _
  refine ⟨fun h => ?_, fun h => ?_⟩
  · have : 2048 < l.length := by simp [litCmp] at h; omega
    have : ¬ l.length ≤ 2048 := by omega
    simp [wrE, wrL, wrOK, *]
  have hl : l.length ≤ 2048 := by simp [litCmp] at h; omega
  have wr : ∀ b : Bool, l.all rightE = b → wrE l = (if b then 0 else 11) ∧ wrL l = (if b then allE l else []) := fun b hb => by
    have : ¬ 2048 < l.length := by omega
    simp [wrE, wrL, wrOK, hb, hl, this]
  refine ⟨fun i o => 0 ≤ i ∧ i ≤ l.length ∧ (l.take i.toNat).all rightE = true ∧ o = allE (l.take i.toNat), fun i _ => ((l.length : Int) - i).toNat, ⟨by omega, by omega, by simp, by simp [allE]⟩, ?_⟩
  rintro i o ⟨h0, h1, h2, rfl⟩
  refine ⟨fun h => ?_, fun h => ?_⟩
  · have hi : i < l.length := by simpa [litCmp] using h
    have hx : l.take (i + 1).toNat = l.take i.toNat ++ [ix l i] := by
      rw [show (i + 1).toNat = i.toNat + 1 from by omega, List.take_add_one]
      have : l[i.toNat]? = some (ix l i) := by
        unfold ix
        rw [List.getD_eq_getElem?_getD, List.getElem?_eq_getElem (by omega)]
        rfl
      simp [this]
    have hmem : ix l i ∈ l := by
      unfold ix
      rw [List.getD_eq_getElem?_getD, List.getElem?_eq_getElem (by omega)]
      exact List.getElem_mem _
    have hq : ∀ b, rightE (ix l i) = b → (∀ x ∈ l, rightE x = true) → b = true := fun b hb hall => by rw [← hb]; exact hall _ hmem
    have hlen : (allE (l.take i.toNat)).length ≤ 28 * 2048 := allE_len _ (by simp; omega)
    have hb := bsE_len (ix l i)
    simp only [true_and, and_true, true_implies, forall_eq, Bool.not_eq_true', Bool.not_eq_false', addI64 (x := i) (y := 1) (by omega) (by omega)]
    refine ⟨⟨h0, hi⟩, fun hr => ?_, fun hr => ⟨hr, ⟨by omega, by omega⟩, ⟨by omega, by omega⟩, ⟨by omega, by omega, ?_, ?_⟩, by omega⟩⟩
    · have : l.all rightE = false := by
        rw [List.all_eq_false]
        exact ⟨_, hmem, by simp [hr]⟩
      obtain ⟨w1, w2⟩ := wr _ this
      rw [w1, w2]; simp
    · rw [hx, List.all_append, h2]; simp [hr]
    · rw [hx]
      have : IntKind.wrap .u8 ((bsE (ix l i)).length : Int) = (bsE (ix l i)).length := by rw [wrap8]; omega
      simp [allE, cbE, this]
  · have hi : i = l.length := by simp [litCmp] at h; omega
    subst hi
    have e : l.take (l.length : Int).toNat = l := by simp
    rw [e] at h2 ⊢
    obtain ⟨w1, w2⟩ := wr _ h2
    rw [w1, w2]
    simp
set_option maxRecDepth 10000 in
theorem write_ok : conWrite.ok KK Try.prog 33 := by
  refine Con.of_vc ([(0, ⟨[(4, 5, .i .u8)], [(4, .is (.own 0)), (13, .d (.i .i64))], [], [0], []⟩)]) ([]) TT_ok follows Try.func33 ?_ G18_ok (@toVC _ _ write_vc ?_)
  · kernel_rfl
  · kernel_rfl
noncomputable def G19 : List (FuncId × Con) := (33, conWrite) :: G18
theorem G19_ok : GOK KK Try.prog G19 := GOK.cons (Callable.of Try.func33 (by kernel_rfl) (by kernel_rfl)) write_ok G18_ok

theorem cand3 {l : List Int} (h : l.length = 3) (h' : ix l 0 = 0) : candE l = (0, 0, ix l 1 + ix l 2 * 256, (0, 0, 0, 0), 0, 0) := by simp [candE, h, h', noC]
theorem cand4 {l : List Int} (h : l.length = 4) (h' : ix l 0 = 2) : candE l = (2, ix l 1, 0, (0, 0, 0, 0), ix l 2, ix l 3) := by simp [candE, h, h', noC]
theorem cand27 {l : List Int} (h : ix l 0 = 1) (h' : readOK (l.drop 2) = true) : candE l = (1, ix l 1, 0, readC (l.drop 2), 0, 0) := by
  simp only [readOK, List.length_drop, Bool.and_eq_true, beq_iff_eq] at h'
  have : l.length = 27 := by omega
  simp [candE, h, h'.2, this, readC, readOK]
theorem candn {l : List Int} (h : ix l 0 = 1) (h' : readOK (l.drop 2) = false) : candE l = E0 := by
  simp only [readOK, List.length_drop, Bool.and_eq_false_iff, beq_eq_false_iff_ne] at h'
  simp only [candE, h]
  rw [if_neg (by simp), if_neg (by simp), if_neg]
  simp only [Bool.and_eq_true, beq_iff_eq]
  rintro ⟨⟨q, _⟩, q'⟩
  rcases h' with h' | h'
  · omega
  · rw [q'] at h'; cases h'
theorem cando {l : List Int} (h1 : ¬ (l.length = 3 ∧ ix l 0 = 0)) (h2 : ¬ (l.length = 4 ∧ ix l 0 = 2)) (h3 : ¬ (l.length = 27 ∧ ix l 0 = 1)) : candE l = (0, 0, 0, (0, 0, 0, 0), 0, 0) := by
  simp only [candE]
  rw [if_neg (by simpa using fun h => fun h' => h1 ⟨h, h'⟩), if_neg (by simpa using fun h => fun h' => h2 ⟨h, h'⟩), if_neg]
  · rfl
  · simp only [Bool.and_eq_true, beq_iff_eq]
    rintro ⟨⟨q, q'⟩, _⟩
    exact h3 ⟨by omega, q'⟩

set_option maxRecDepth 10000 in
theorem one_vc :
  ∀ x0 : List Int,
  (bytes x0) →
  ((litCmp BinOp.eql (↑(List.length x0) : Int) (3 : Int) = true) →
   (((0 : Int) ≤ (0 : Int)) ∧
    ((0 : Int) < (↑(List.length x0) : Int))) ∧
   (∀ x1 : Int,
    (x1 = ix x0 (0 : Int)) →
    ((litCmp BinOp.eql x1 (0 : Int) = true) →
     (((0 : Int) ≤ (2 : Int)) ∧
      ((2 : Int) < (↑(List.length x0) : Int))) ∧
     ((((0 : Int) ≤ (1 : Int)) ∧
       ((1 : Int) < (↑(List.length x0) : Int))) ∧
      ((True) ∧
       (True →
        (((!rightE ((0 : Int), (0 : Int), litArith BinOp.add IntKind.i64 (IntKind.wrap IntKind.i64 (ix x0 (1 : Int))) (litArith BinOp.shl IntKind.i64 (IntKind.wrap IntKind.i64 (ix x0 (2 : Int))) (8 : Int)), ((0 : Int), (0 : Int), (0 : Int), (0 : Int)), (0 : Int), (0 : Int))) = true) →
         ∀ x2 : Int × Int × Int × (Int × Int × Int × Int) × Int × Int,
         (x2 = ((0 : Int), (0 : Int), (0 : Int), ((0 : Int), (0 : Int), (0 : Int), (0 : Int)), (0 : Int), (0 : Int))) →
         (True) ∧
         ((x2 = oneE x0) ∧
          ((false = isE x0) ∧
           (True)))) ∧
        (((!rightE ((0 : Int), (0 : Int), litArith BinOp.add IntKind.i64 (IntKind.wrap IntKind.i64 (ix x0 (1 : Int))) (litArith BinOp.shl IntKind.i64 (IntKind.wrap IntKind.i64 (ix x0 (2 : Int))) (8 : Int)), ((0 : Int), (0 : Int), (0 : Int), (0 : Int)), (0 : Int), (0 : Int))) = false) →
         ∀ x3 : Int × Int × Int × (Int × Int × Int × Int) × Int × Int,
         (x3 = ((0 : Int), (0 : Int), litArith BinOp.add IntKind.i64 (IntKind.wrap IntKind.i64 (ix x0 (1 : Int))) (litArith BinOp.shl IntKind.i64 (IntKind.wrap IntKind.i64 (ix x0 (2 : Int))) (8 : Int)), ((0 : Int), (0 : Int), (0 : Int), (0 : Int)), (0 : Int), (0 : Int))) →
         (True) ∧
         ((x3 = oneE x0) ∧
          ((true = isE x0) ∧
           (True)))))))) ∧
    ((litCmp BinOp.eql x1 (0 : Int) = false) →
     ((litCmp BinOp.eql (↑(List.length x0) : Int) (4 : Int) = true) →
      (((0 : Int) ≤ (0 : Int)) ∧
       ((0 : Int) < (↑(List.length x0) : Int))) ∧
      (∀ x4 : Int,
       (x4 = ix x0 (0 : Int)) →
       ((litCmp BinOp.eql x4 (2 : Int) = true) →
        (((0 : Int) ≤ (3 : Int)) ∧
         ((3 : Int) < (↑(List.length x0) : Int))) ∧
        ((((0 : Int) ≤ (2 : Int)) ∧
          ((2 : Int) < (↑(List.length x0) : Int))) ∧
         ((((0 : Int) ≤ (1 : Int)) ∧
           ((1 : Int) < (↑(List.length x0) : Int))) ∧
          ((True) ∧
           (True →
            (((!rightE ((2 : Int), IntKind.wrap IntKind.i64 (ix x0 (1 : Int)), (0 : Int), ((0 : Int), (0 : Int), (0 : Int), (0 : Int)), IntKind.wrap IntKind.i64 (ix x0 (2 : Int)), IntKind.wrap IntKind.i64 (ix x0 (3 : Int)))) = true) →
             ∀ x5 : Int × Int × Int × (Int × Int × Int × Int) × Int × Int,
             (x5 = ((0 : Int), (0 : Int), (0 : Int), ((0 : Int), (0 : Int), (0 : Int), (0 : Int)), (0 : Int), (0 : Int))) →
             (True) ∧
             ((x5 = oneE x0) ∧
              ((false = isE x0) ∧
               (True)))) ∧
            (((!rightE ((2 : Int), IntKind.wrap IntKind.i64 (ix x0 (1 : Int)), (0 : Int), ((0 : Int), (0 : Int), (0 : Int), (0 : Int)), IntKind.wrap IntKind.i64 (ix x0 (2 : Int)), IntKind.wrap IntKind.i64 (ix x0 (3 : Int)))) = false) →
             ∀ x6 : Int × Int × Int × (Int × Int × Int × Int) × Int × Int,
             (x6 = ((2 : Int), IntKind.wrap IntKind.i64 (ix x0 (1 : Int)), (0 : Int), ((0 : Int), (0 : Int), (0 : Int), (0 : Int)), IntKind.wrap IntKind.i64 (ix x0 (2 : Int)), IntKind.wrap IntKind.i64 (ix x0 (3 : Int)))) →
             (True) ∧
             ((x6 = oneE x0) ∧
              ((true = isE x0) ∧
               (True))))))))) ∧
       ((litCmp BinOp.eql x4 (2 : Int) = false) →
        ((litCmp BinOp.gtr (↑(List.length x0) : Int) (2 : Int) = true) →
         (((0 : Int) ≤ (0 : Int)) ∧
          ((0 : Int) < (↑(List.length x0) : Int))) ∧
         (∀ x7 : Int,
          (x7 = ix x0 (0 : Int)) →
          ((litCmp BinOp.eql x7 (1 : Int) = true) →
           ((2 : Int) ≤ (↑(List.length x0) : Int)) ∧
           ((bytes (List.drop (2 : Nat) x0)) ∧
            (True →
             ∀ x8 : Int × Int × Int × Int,
             (x8 = readC (List.drop (2 : Nat) x0)) →
             (((!readOK (List.drop (2 : Nat) x0)) = true) →
              ∀ x9 : Int × Int × Int × (Int × Int × Int × Int) × Int × Int,
              (x9 = ((0 : Int), (0 : Int), (0 : Int), ((0 : Int), (0 : Int), (0 : Int), (0 : Int)), (0 : Int), (0 : Int))) →
              (True) ∧
              ((x9 = oneE x0) ∧
               ((false = isE x0) ∧
                (True)))) ∧
             (((!readOK (List.drop (2 : Nat) x0)) = false) →
              (((0 : Int) ≤ (1 : Int)) ∧
               ((1 : Int) < (↑(List.length x0) : Int))) ∧
              ((True) ∧
               (True →
                (((!rightE ((1 : Int), IntKind.wrap IntKind.i64 (ix x0 (1 : Int)), (0 : Int), x8, (0 : Int), (0 : Int))) = true) →
                 ∀ x10 : Int × Int × Int × (Int × Int × Int × Int) × Int × Int,
                 (x10 = ((0 : Int), (0 : Int), (0 : Int), ((0 : Int), (0 : Int), (0 : Int), (0 : Int)), (0 : Int), (0 : Int))) →
                 (True) ∧
                 ((x10 = oneE x0) ∧
                  ((false = isE x0) ∧
                   (True)))) ∧
                (((!rightE ((1 : Int), IntKind.wrap IntKind.i64 (ix x0 (1 : Int)), (0 : Int), x8, (0 : Int), (0 : Int))) = false) →
                 ∀ x11 : Int × Int × Int × (Int × Int × Int × Int) × Int × Int,
                 (x11 = ((1 : Int), IntKind.wrap IntKind.i64 (ix x0 (1 : Int)), (0 : Int), x8, (0 : Int), (0 : Int))) →
                 (True) ∧
                 ((x11 = oneE x0) ∧
                  ((true = isE x0) ∧
                   (True)))))))))) ∧
          ((litCmp BinOp.eql x7 (1 : Int) = false) →
           (True) ∧
           (True →
            (((!rightE ((0 : Int), (0 : Int), (0 : Int), ((0 : Int), (0 : Int), (0 : Int), (0 : Int)), (0 : Int), (0 : Int))) = true) →
             ∀ x12 : Int × Int × Int × (Int × Int × Int × Int) × Int × Int,
             (x12 = ((0 : Int), (0 : Int), (0 : Int), ((0 : Int), (0 : Int), (0 : Int), (0 : Int)), (0 : Int), (0 : Int))) →
             (True) ∧
             ((x12 = oneE x0) ∧
              ((false = isE x0) ∧
               (True)))) ∧
            (((!rightE ((0 : Int), (0 : Int), (0 : Int), ((0 : Int), (0 : Int), (0 : Int), (0 : Int)), (0 : Int), (0 : Int))) = false) →
             ∀ x13 : Int × Int × Int × (Int × Int × Int × Int) × Int × Int,
             (x13 = ((0 : Int), (0 : Int), (0 : Int), ((0 : Int), (0 : Int), (0 : Int), (0 : Int)), (0 : Int), (0 : Int))) →
             (True) ∧
             ((x13 = oneE x0) ∧
              ((true = isE x0) ∧
               (True)))))))) ∧
        ((litCmp BinOp.gtr (↑(List.length x0) : Int) (2 : Int) = false) →
         (True) ∧
         (True →
          (((!rightE ((0 : Int), (0 : Int), (0 : Int), ((0 : Int), (0 : Int), (0 : Int), (0 : Int)), (0 : Int), (0 : Int))) = true) →
           ∀ x14 : Int × Int × Int × (Int × Int × Int × Int) × Int × Int,
           (x14 = ((0 : Int), (0 : Int), (0 : Int), ((0 : Int), (0 : Int), (0 : Int), (0 : Int)), (0 : Int), (0 : Int))) →
           (True) ∧
           ((x14 = oneE x0) ∧
            ((false = isE x0) ∧
             (True)))) ∧
          (((!rightE ((0 : Int), (0 : Int), (0 : Int), ((0 : Int), (0 : Int), (0 : Int), (0 : Int)), (0 : Int), (0 : Int))) = false) →
           ∀ x15 : Int × Int × Int × (Int × Int × Int × Int) × Int × Int,
           (x15 = ((0 : Int), (0 : Int), (0 : Int), ((0 : Int), (0 : Int), (0 : Int), (0 : Int)), (0 : Int), (0 : Int))) →
           (True) ∧
           ((x15 = oneE x0) ∧
            ((true = isE x0) ∧
             (True))))))))) ∧
     ((litCmp BinOp.eql (↑(List.length x0) : Int) (4 : Int) = false) →
      ((litCmp BinOp.gtr (↑(List.length x0) : Int) (2 : Int) = true) →
       (((0 : Int) ≤ (0 : Int)) ∧
        ((0 : Int) < (↑(List.length x0) : Int))) ∧
       (∀ x16 : Int,
        (x16 = ix x0 (0 : Int)) →
        ((litCmp BinOp.eql x16 (1 : Int) = true) →
         ((2 : Int) ≤ (↑(List.length x0) : Int)) ∧
         ((bytes (List.drop (2 : Nat) x0)) ∧
          (True →
           ∀ x17 : Int × Int × Int × Int,
           (x17 = readC (List.drop (2 : Nat) x0)) →
           (((!readOK (List.drop (2 : Nat) x0)) = true) →
            ∀ x18 : Int × Int × Int × (Int × Int × Int × Int) × Int × Int,
            (x18 = ((0 : Int), (0 : Int), (0 : Int), ((0 : Int), (0 : Int), (0 : Int), (0 : Int)), (0 : Int), (0 : Int))) →
            (True) ∧
            ((x18 = oneE x0) ∧
             ((false = isE x0) ∧
              (True)))) ∧
           (((!readOK (List.drop (2 : Nat) x0)) = false) →
            (((0 : Int) ≤ (1 : Int)) ∧
             ((1 : Int) < (↑(List.length x0) : Int))) ∧
            ((True) ∧
             (True →
              (((!rightE ((1 : Int), IntKind.wrap IntKind.i64 (ix x0 (1 : Int)), (0 : Int), x17, (0 : Int), (0 : Int))) = true) →
               ∀ x19 : Int × Int × Int × (Int × Int × Int × Int) × Int × Int,
               (x19 = ((0 : Int), (0 : Int), (0 : Int), ((0 : Int), (0 : Int), (0 : Int), (0 : Int)), (0 : Int), (0 : Int))) →
               (True) ∧
               ((x19 = oneE x0) ∧
                ((false = isE x0) ∧
                 (True)))) ∧
              (((!rightE ((1 : Int), IntKind.wrap IntKind.i64 (ix x0 (1 : Int)), (0 : Int), x17, (0 : Int), (0 : Int))) = false) →
               ∀ x20 : Int × Int × Int × (Int × Int × Int × Int) × Int × Int,
               (x20 = ((1 : Int), IntKind.wrap IntKind.i64 (ix x0 (1 : Int)), (0 : Int), x17, (0 : Int), (0 : Int))) →
               (True) ∧
               ((x20 = oneE x0) ∧
                ((true = isE x0) ∧
                 (True)))))))))) ∧
        ((litCmp BinOp.eql x16 (1 : Int) = false) →
         (True) ∧
         (True →
          (((!rightE ((0 : Int), (0 : Int), (0 : Int), ((0 : Int), (0 : Int), (0 : Int), (0 : Int)), (0 : Int), (0 : Int))) = true) →
           ∀ x21 : Int × Int × Int × (Int × Int × Int × Int) × Int × Int,
           (x21 = ((0 : Int), (0 : Int), (0 : Int), ((0 : Int), (0 : Int), (0 : Int), (0 : Int)), (0 : Int), (0 : Int))) →
           (True) ∧
           ((x21 = oneE x0) ∧
            ((false = isE x0) ∧
             (True)))) ∧
          (((!rightE ((0 : Int), (0 : Int), (0 : Int), ((0 : Int), (0 : Int), (0 : Int), (0 : Int)), (0 : Int), (0 : Int))) = false) →
           ∀ x22 : Int × Int × Int × (Int × Int × Int × Int) × Int × Int,
           (x22 = ((0 : Int), (0 : Int), (0 : Int), ((0 : Int), (0 : Int), (0 : Int), (0 : Int)), (0 : Int), (0 : Int))) →
           (True) ∧
           ((x22 = oneE x0) ∧
            ((true = isE x0) ∧
             (True)))))))) ∧
      ((litCmp BinOp.gtr (↑(List.length x0) : Int) (2 : Int) = false) →
       (True) ∧
       (True →
        (((!rightE ((0 : Int), (0 : Int), (0 : Int), ((0 : Int), (0 : Int), (0 : Int), (0 : Int)), (0 : Int), (0 : Int))) = true) →
         ∀ x23 : Int × Int × Int × (Int × Int × Int × Int) × Int × Int,
         (x23 = ((0 : Int), (0 : Int), (0 : Int), ((0 : Int), (0 : Int), (0 : Int), (0 : Int)), (0 : Int), (0 : Int))) →
         (True) ∧
         ((x23 = oneE x0) ∧
          ((false = isE x0) ∧
           (True)))) ∧
        (((!rightE ((0 : Int), (0 : Int), (0 : Int), ((0 : Int), (0 : Int), (0 : Int), (0 : Int)), (0 : Int), (0 : Int))) = false) →
         ∀ x24 : Int × Int × Int × (Int × Int × Int × Int) × Int × Int,
         (x24 = ((0 : Int), (0 : Int), (0 : Int), ((0 : Int), (0 : Int), (0 : Int), (0 : Int)), (0 : Int), (0 : Int))) →
         (True) ∧
         ((x24 = oneE x0) ∧
          ((true = isE x0) ∧
           (True)))))))))) ∧
  ((litCmp BinOp.eql (↑(List.length x0) : Int) (3 : Int) = false) →
   ((litCmp BinOp.eql (↑(List.length x0) : Int) (4 : Int) = true) →
    (((0 : Int) ≤ (0 : Int)) ∧
     ((0 : Int) < (↑(List.length x0) : Int))) ∧
    (∀ x25 : Int,
     (x25 = ix x0 (0 : Int)) →
     ((litCmp BinOp.eql x25 (2 : Int) = true) →
      (((0 : Int) ≤ (3 : Int)) ∧
       ((3 : Int) < (↑(List.length x0) : Int))) ∧
      ((((0 : Int) ≤ (2 : Int)) ∧
        ((2 : Int) < (↑(List.length x0) : Int))) ∧
       ((((0 : Int) ≤ (1 : Int)) ∧
         ((1 : Int) < (↑(List.length x0) : Int))) ∧
        ((True) ∧
         (True →
          (((!rightE ((2 : Int), IntKind.wrap IntKind.i64 (ix x0 (1 : Int)), (0 : Int), ((0 : Int), (0 : Int), (0 : Int), (0 : Int)), IntKind.wrap IntKind.i64 (ix x0 (2 : Int)), IntKind.wrap IntKind.i64 (ix x0 (3 : Int)))) = true) →
           ∀ x26 : Int × Int × Int × (Int × Int × Int × Int) × Int × Int,
           (x26 = ((0 : Int), (0 : Int), (0 : Int), ((0 : Int), (0 : Int), (0 : Int), (0 : Int)), (0 : Int), (0 : Int))) →
           (True) ∧
           ((x26 = oneE x0) ∧
            ((false = isE x0) ∧
             (True)))) ∧
          (((!rightE ((2 : Int), IntKind.wrap IntKind.i64 (ix x0 (1 : Int)), (0 : Int), ((0 : Int), (0 : Int), (0 : Int), (0 : Int)), IntKind.wrap IntKind.i64 (ix x0 (2 : Int)), IntKind.wrap IntKind.i64 (ix x0 (3 : Int)))) = false) →
           ∀ x27 : Int × Int × Int × (Int × Int × Int × Int) × Int × Int,
           (x27 = ((2 : Int), IntKind.wrap IntKind.i64 (ix x0 (1 : Int)), (0 : Int), ((0 : Int), (0 : Int), (0 : Int), (0 : Int)), IntKind.wrap IntKind.i64 (ix x0 (2 : Int)), IntKind.wrap IntKind.i64 (ix x0 (3 : Int)))) →
           (True) ∧
           ((x27 = oneE x0) ∧
            ((true = isE x0) ∧
             (True))))))))) ∧
     ((litCmp BinOp.eql x25 (2 : Int) = false) →
      ((litCmp BinOp.gtr (↑(List.length x0) : Int) (2 : Int) = true) →
       (((0 : Int) ≤ (0 : Int)) ∧
        ((0 : Int) < (↑(List.length x0) : Int))) ∧
       (∀ x28 : Int,
        (x28 = ix x0 (0 : Int)) →
        ((litCmp BinOp.eql x28 (1 : Int) = true) →
         ((2 : Int) ≤ (↑(List.length x0) : Int)) ∧
         ((bytes (List.drop (2 : Nat) x0)) ∧
          (True →
           ∀ x29 : Int × Int × Int × Int,
           (x29 = readC (List.drop (2 : Nat) x0)) →
           (((!readOK (List.drop (2 : Nat) x0)) = true) →
            ∀ x30 : Int × Int × Int × (Int × Int × Int × Int) × Int × Int,
            (x30 = ((0 : Int), (0 : Int), (0 : Int), ((0 : Int), (0 : Int), (0 : Int), (0 : Int)), (0 : Int), (0 : Int))) →
            (True) ∧
            ((x30 = oneE x0) ∧
             ((false = isE x0) ∧
              (True)))) ∧
           (((!readOK (List.drop (2 : Nat) x0)) = false) →
            (((0 : Int) ≤ (1 : Int)) ∧
             ((1 : Int) < (↑(List.length x0) : Int))) ∧
            ((True) ∧
             (True →
              (((!rightE ((1 : Int), IntKind.wrap IntKind.i64 (ix x0 (1 : Int)), (0 : Int), x29, (0 : Int), (0 : Int))) = true) →
               ∀ x31 : Int × Int × Int × (Int × Int × Int × Int) × Int × Int,
               (x31 = ((0 : Int), (0 : Int), (0 : Int), ((0 : Int), (0 : Int), (0 : Int), (0 : Int)), (0 : Int), (0 : Int))) →
               (True) ∧
               ((x31 = oneE x0) ∧
                ((false = isE x0) ∧
                 (True)))) ∧
              (((!rightE ((1 : Int), IntKind.wrap IntKind.i64 (ix x0 (1 : Int)), (0 : Int), x29, (0 : Int), (0 : Int))) = false) →
               ∀ x32 : Int × Int × Int × (Int × Int × Int × Int) × Int × Int,
               (x32 = ((1 : Int), IntKind.wrap IntKind.i64 (ix x0 (1 : Int)), (0 : Int), x29, (0 : Int), (0 : Int))) →
               (True) ∧
               ((x32 = oneE x0) ∧
                ((true = isE x0) ∧
                 (True)))))))))) ∧
        ((litCmp BinOp.eql x28 (1 : Int) = false) →
         (True) ∧
         (True →
          (((!rightE ((0 : Int), (0 : Int), (0 : Int), ((0 : Int), (0 : Int), (0 : Int), (0 : Int)), (0 : Int), (0 : Int))) = true) →
           ∀ x33 : Int × Int × Int × (Int × Int × Int × Int) × Int × Int,
           (x33 = ((0 : Int), (0 : Int), (0 : Int), ((0 : Int), (0 : Int), (0 : Int), (0 : Int)), (0 : Int), (0 : Int))) →
           (True) ∧
           ((x33 = oneE x0) ∧
            ((false = isE x0) ∧
             (True)))) ∧
          (((!rightE ((0 : Int), (0 : Int), (0 : Int), ((0 : Int), (0 : Int), (0 : Int), (0 : Int)), (0 : Int), (0 : Int))) = false) →
           ∀ x34 : Int × Int × Int × (Int × Int × Int × Int) × Int × Int,
           (x34 = ((0 : Int), (0 : Int), (0 : Int), ((0 : Int), (0 : Int), (0 : Int), (0 : Int)), (0 : Int), (0 : Int))) →
           (True) ∧
           ((x34 = oneE x0) ∧
            ((true = isE x0) ∧
             (True)))))))) ∧
      ((litCmp BinOp.gtr (↑(List.length x0) : Int) (2 : Int) = false) →
       (True) ∧
       (True →
        (((!rightE ((0 : Int), (0 : Int), (0 : Int), ((0 : Int), (0 : Int), (0 : Int), (0 : Int)), (0 : Int), (0 : Int))) = true) →
         ∀ x35 : Int × Int × Int × (Int × Int × Int × Int) × Int × Int,
         (x35 = ((0 : Int), (0 : Int), (0 : Int), ((0 : Int), (0 : Int), (0 : Int), (0 : Int)), (0 : Int), (0 : Int))) →
         (True) ∧
         ((x35 = oneE x0) ∧
          ((false = isE x0) ∧
           (True)))) ∧
        (((!rightE ((0 : Int), (0 : Int), (0 : Int), ((0 : Int), (0 : Int), (0 : Int), (0 : Int)), (0 : Int), (0 : Int))) = false) →
         ∀ x36 : Int × Int × Int × (Int × Int × Int × Int) × Int × Int,
         (x36 = ((0 : Int), (0 : Int), (0 : Int), ((0 : Int), (0 : Int), (0 : Int), (0 : Int)), (0 : Int), (0 : Int))) →
         (True) ∧
         ((x36 = oneE x0) ∧
          ((true = isE x0) ∧
           (True))))))))) ∧
   ((litCmp BinOp.eql (↑(List.length x0) : Int) (4 : Int) = false) →
    ((litCmp BinOp.gtr (↑(List.length x0) : Int) (2 : Int) = true) →
     (((0 : Int) ≤ (0 : Int)) ∧
      ((0 : Int) < (↑(List.length x0) : Int))) ∧
     (∀ x37 : Int,
      (x37 = ix x0 (0 : Int)) →
      ((litCmp BinOp.eql x37 (1 : Int) = true) →
       ((2 : Int) ≤ (↑(List.length x0) : Int)) ∧
       ((bytes (List.drop (2 : Nat) x0)) ∧
        (True →
         ∀ x38 : Int × Int × Int × Int,
         (x38 = readC (List.drop (2 : Nat) x0)) →
         (((!readOK (List.drop (2 : Nat) x0)) = true) →
          ∀ x39 : Int × Int × Int × (Int × Int × Int × Int) × Int × Int,
          (x39 = ((0 : Int), (0 : Int), (0 : Int), ((0 : Int), (0 : Int), (0 : Int), (0 : Int)), (0 : Int), (0 : Int))) →
          (True) ∧
          ((x39 = oneE x0) ∧
           ((false = isE x0) ∧
            (True)))) ∧
         (((!readOK (List.drop (2 : Nat) x0)) = false) →
          (((0 : Int) ≤ (1 : Int)) ∧
           ((1 : Int) < (↑(List.length x0) : Int))) ∧
          ((True) ∧
           (True →
            (((!rightE ((1 : Int), IntKind.wrap IntKind.i64 (ix x0 (1 : Int)), (0 : Int), x38, (0 : Int), (0 : Int))) = true) →
             ∀ x40 : Int × Int × Int × (Int × Int × Int × Int) × Int × Int,
             (x40 = ((0 : Int), (0 : Int), (0 : Int), ((0 : Int), (0 : Int), (0 : Int), (0 : Int)), (0 : Int), (0 : Int))) →
             (True) ∧
             ((x40 = oneE x0) ∧
              ((false = isE x0) ∧
               (True)))) ∧
            (((!rightE ((1 : Int), IntKind.wrap IntKind.i64 (ix x0 (1 : Int)), (0 : Int), x38, (0 : Int), (0 : Int))) = false) →
             ∀ x41 : Int × Int × Int × (Int × Int × Int × Int) × Int × Int,
             (x41 = ((1 : Int), IntKind.wrap IntKind.i64 (ix x0 (1 : Int)), (0 : Int), x38, (0 : Int), (0 : Int))) →
             (True) ∧
             ((x41 = oneE x0) ∧
              ((true = isE x0) ∧
               (True)))))))))) ∧
      ((litCmp BinOp.eql x37 (1 : Int) = false) →
       (True) ∧
       (True →
        (((!rightE ((0 : Int), (0 : Int), (0 : Int), ((0 : Int), (0 : Int), (0 : Int), (0 : Int)), (0 : Int), (0 : Int))) = true) →
         ∀ x42 : Int × Int × Int × (Int × Int × Int × Int) × Int × Int,
         (x42 = ((0 : Int), (0 : Int), (0 : Int), ((0 : Int), (0 : Int), (0 : Int), (0 : Int)), (0 : Int), (0 : Int))) →
         (True) ∧
         ((x42 = oneE x0) ∧
          ((false = isE x0) ∧
           (True)))) ∧
        (((!rightE ((0 : Int), (0 : Int), (0 : Int), ((0 : Int), (0 : Int), (0 : Int), (0 : Int)), (0 : Int), (0 : Int))) = false) →
         ∀ x43 : Int × Int × Int × (Int × Int × Int × Int) × Int × Int,
         (x43 = ((0 : Int), (0 : Int), (0 : Int), ((0 : Int), (0 : Int), (0 : Int), (0 : Int)), (0 : Int), (0 : Int))) →
         (True) ∧
         ((x43 = oneE x0) ∧
          ((true = isE x0) ∧
           (True)))))))) ∧
    ((litCmp BinOp.gtr (↑(List.length x0) : Int) (2 : Int) = false) →
     (True) ∧
     (True →
      (((!rightE ((0 : Int), (0 : Int), (0 : Int), ((0 : Int), (0 : Int), (0 : Int), (0 : Int)), (0 : Int), (0 : Int))) = true) →
       ∀ x44 : Int × Int × Int × (Int × Int × Int × Int) × Int × Int,
       (x44 = ((0 : Int), (0 : Int), (0 : Int), ((0 : Int), (0 : Int), (0 : Int), (0 : Int)), (0 : Int), (0 : Int))) →
       (True) ∧
       ((x44 = oneE x0) ∧
        ((false = isE x0) ∧
         (True)))) ∧
      (((!rightE ((0 : Int), (0 : Int), (0 : Int), ((0 : Int), (0 : Int), (0 : Int), (0 : Int)), (0 : Int), (0 : Int))) = false) →
       ∀ x45 : Int × Int × Int × (Int × Int × Int × Int) × Int × Int,
       (x45 = ((0 : Int), (0 : Int), (0 : Int), ((0 : Int), (0 : Int), (0 : Int), (0 : Int)), (0 : Int), (0 : Int))) →
       (True) ∧
       ((x45 = oneE x0) ∧
        ((true = isE x0) ∧
         (True)))))))) := by
  intro l hl
  have e0 := wrapI _ (ix_of (i := 0) hl).1 (ix_of (i := 0) hl).2
  have e1 := wrapI _ (ix_of (i := 1) hl).1 (ix_of (i := 1) hl).2
  have e2 := wrapI _ (ix_of (i := 2) hl).1 (ix_of (i := 2) hl).2
  have e3 := wrapI _ (ix_of (i := 3) hl).1 (ix_of (i := 3) hl).2
  have b1 := ix_of (i := 1) hl
  have b2 := ix_of (i := 2) hl
  have e5 : litArith .shl .i64 (ix l 2) 8 = ix l 2 * 256 := wrapI64 (x := ix l 2 * 256) (by omega) (by omega)
  have e4 : litArith .add .i64 (ix l 1) (ix l 2 * 256) = ix l 1 + ix l 2 * 256 := addI64 (by omega) (by omega)
  have leaf : ∀ c, candE l = c → ((!rightE c) = true → ((0 : Int), (0 : Int), (0 : Int), ((0 : Int), (0 : Int), (0 : Int), (0 : Int)), (0 : Int), (0 : Int)) = oneE l ∧ false = isE l) ∧ ((!rightE c) = false → c = oneE l ∧ true = isE l) := fun c hc => by
    simp only [oneE, isE, hc, Bool.not_eq_true', Bool.not_eq_false']
    refine ⟨fun h => ?_, fun h => ?_⟩ <;> simp [h, E0]
  have no : candE l = E0 → ((0 : Int), (0 : Int), (0 : Int), ((0 : Int), (0 : Int), (0 : Int), (0 : Int)), (0 : Int), (0 : Int)) = oneE l ∧ false = isE l := fun h => by
    rw [oneE, isE, h]; exact ⟨rfl, rfl⟩
  have hd : bytes (List.drop 2 l) := fun x hx => hl x (List.mem_of_mem_drop hx)
  simp only [litCmp, beq_iff_eq, beq_eq_false_iff_ne, decide_eq_true_eq, decide_eq_false_iff_not, true_and, and_true, true_implies, forall_eq, e0, e1, e2, e3, e4, e5, hd]
  repeat' first | refine leaf _ ?_ | refine no ?_ | refine ⟨?_, ?_⟩ | intro _
  all_goals first | omega | exact cand3 (by omega) (by assumption) | exact cand4 (by omega) (by assumption) | exact cand27 (by assumption) (by simp_all) | exact candn (by assumption) (by simp_all) | exact cando (by omega) (by omega) (by omega)
set_option maxRecDepth 10000 in
theorem one_ok : conOne.ok KK Try.prog 31 := by
  refine Con.of_vc ([]) ([]) TT_ok follows Try.func31 ?_ G19_ok (@toVC _ _ one_vc ?_)
  · kernel_rfl
  · kernel_rfl
noncomputable def G20 : List (FuncId × Con) := (31, conOne) :: G19
theorem G20_ok : GOK KK Try.prog G20 := GOK.cons (Callable.of Try.func31 (by kernel_rfl) (by kernel_rfl)) one_ok G19_ok

theorem rdE_fuel : ∀ (n m : Nat) (l : List Int), l.length ≤ n → l.length ≤ m → rdE n l = rdE m l
  | 0, m, l, h, _ => by
    have : l = [] := List.eq_nil_of_length_eq_zero (by omega)
    subst this
    cases m <;> rfl
  | n + 1, 0, l, _, h => by
    have : l = [] := List.eq_nil_of_length_eq_zero (by omega)
    subst this
    rfl
  | n + 1, m + 1, [], _, _ => rfl
  | n + 1, m + 1, x :: l, h1, h2 => by
    simp only [rdE]
    split
    · rfl
    · rw [rdE_fuel n m (l.drop x.toNat) (by simp at h1 ⊢; omega) (by simp at h2 ⊢; omega)]
theorem rdE_nil (l : List Int) (h : l.length = 0) : rdE l.length l = [] := by
  have : l = [] := List.eq_nil_of_length_eq_zero h
  subst this; rfl
theorem rdE_step {b : List Int} (h : 0 < b.length) (h0 : 0 ≤ ix b 0) : rdE b.length b = if (b.length : Int) ≤ ix b 0 then [] else (if isE ((b.drop 1).take (ix b 0).toNat) then [oneE ((b.drop 1).take (ix b 0).toNat)] else []) ++ rdE (b.drop (1 + ix b 0).toNat).length (b.drop (1 + ix b 0).toNat) := by
  cases b with
  | nil => simp at h
  | cons x t =>
    have e : ix (x :: t) 0 = x := rfl
    rw [e] at h0 ⊢
    simp only [List.length_cons, rdE, List.drop_succ_cons, List.drop_zero]
    rw [show (1 + x).toNat = x.toNat + 1 from by omega, List.drop_succ_cons]
    by_cases hx : (t.length : Int) < x
    · rw [if_pos hx, if_pos (by omega)]
    · rw [if_neg hx, if_neg (show ¬ (((t.length + 1 : Nat) : Int) ≤ x) by omega), rdE_fuel t.length (t.drop x.toNat).length (t.drop x.toNat) (by simp) (Nat.le_refl _)]

set_option maxRecDepth 10000 in
theorem wread_vc :
  ∀ x0 : List Int,
  (bytes x0) →
  ((litCmp BinOp.gtr (↑(List.length x0) : Int) (65536 : Int) = true) →
   (True) ∧
   (((12 : Int) = rdC x0) ∧
    ((rdL x0 = []) ∧
     (((0 : Int) = (↑(List.length (rdL x0)) : Int)) ∧
      (True))))) ∧
  ((litCmp BinOp.gtr (↑(List.length x0) : Int) (65536 : Int) = false) →
   ∃ x1 : List Int → List (Int × Int × Int × (Int × Int × Int × Int) × Int × Int) → Prop,
   ∃ x2 : List Int → List (Int × Int × Int × (Int × Int × Int × Int) × Int × Int) → Nat,
   (x1 x0 []) ∧
   (∀ x3 : List Int,
    ∀ x4 : List (Int × Int × Int × (Int × Int × Int × Int) × Int × Int),
    (x1 x3 x4) →
    ((litCmp BinOp.gtr (↑(List.length x3) : Int) (0 : Int) = true) →
     (((0 : Int) ≤ (0 : Int)) ∧
      ((0 : Int) < (↑(List.length x3) : Int))) ∧
     (∀ x5 : Int,
      (x5 = ix x3 (0 : Int)) →
      ∀ x6 : Int,
      (x6 = IntKind.wrap IntKind.i64 x5) →
      ((litCmp BinOp.gtr (↑(List.length x3) : Int) x6 = true) →
       ((litCmp BinOp.lss (↑(List.length x4) : Int) (2048 : Int) = true) →
        (((0 : Int) ≤ (0 : Int)) ∧
         ((0 : Int) < (↑(List.length x3) : Int))) ∧
        (∀ x7 : Int,
         (x7 = ix x3 (0 : Int)) →
         ∀ x8 : Int,
         (x8 = IntKind.wrap IntKind.i64 x7) →
         ∀ x9 : Int,
         (x9 = litArith BinOp.add IntKind.i64 (1 : Int) x8) →
         ((1 : Int) ≤ x9) ∧
         ((x9 ≤ (↑(List.length x3) : Int)) ∧
          ((bytes (List.take (Int.toNat (x9 - (1 : Int))) (List.drop (1 : Nat) x3))) ∧
           (True →
            ∀ x10 : Int × Int × Int × (Int × Int × Int × Int) × Int × Int,
            (x10 = oneE (List.take (Int.toNat (x9 - (1 : Int))) (List.drop (1 : Nat) x3))) →
            ((isE (List.take (Int.toNat (x9 - (1 : Int))) (List.drop (1 : Nat) x3)) = true) →
             (((0 : Int) ≤ (↑(List.length x4) : Int) + (1 : Int)) ∧
              (((↑(List.length x4) : Int) + (1 : Int)) * (72 : Int) ≤ (140737488355328 : Int))) ∧
             (∀ x11 : List (Int × Int × Int × (Int × Int × Int × Int) × Int × Int),
              (x11 = x4 ++ [x10]) →
              ((0 : Int) ≤ x9) ∧
              ((x9 ≤ (↑(List.length x3) : Int)) ∧
               ((x1 (List.drop (Int.toNat x9) x3) x11) ∧
                (x2 (List.drop (Int.toNat x9) x3) x11 < x2 x3 x4))))) ∧
            ((isE (List.take (Int.toNat (x9 - (1 : Int))) (List.drop (1 : Nat) x3)) = false) →
             ((0 : Int) ≤ x9) ∧
             ((x9 ≤ (↑(List.length x3) : Int)) ∧
              ((x1 (List.drop (Int.toNat x9) x3) x4) ∧
               (x2 (List.drop (Int.toNat x9) x3) x4 < x2 x3 x4))))))))) ∧
       ((litCmp BinOp.lss (↑(List.length x4) : Int) (2048 : Int) = false) →
        (True) ∧
        (((0 : Int) = rdC x0) ∧
         ((x4 = rdL x0) ∧
          (((↑(List.length x4) : Int) = (↑(List.length (rdL x0)) : Int)) ∧
           (True)))))) ∧
      ((litCmp BinOp.gtr (↑(List.length x3) : Int) x6 = false) →
       (True) ∧
       (((0 : Int) = rdC x0) ∧
        ((x4 = rdL x0) ∧
         (((↑(List.length x4) : Int) = (↑(List.length (rdL x0)) : Int)) ∧
          (True))))))) ∧
    ((litCmp BinOp.gtr (↑(List.length x3) : Int) (0 : Int) = false) →
     (True) ∧
     (((0 : Int) = rdC x0) ∧
      ((x4 = rdL x0) ∧
       (((↑(List.length x4) : Int) = (↑(List.length (rdL x0)) : Int)) ∧
        (True))))))) := by
  intro l hl
  refine ⟨fun h => ?_, fun h => ?_⟩
  · have : ¬ l.length ≤ 65536 := by simp [litCmp] at h; omega
    simp [rdC, rdL, this]
  have hn : l.length ≤ 65536 := by simp [litCmp] at h; omega
  have hC : rdC l = 0 := by simp [rdC, hn]
  have hL : rdL l = rdAll l := by simp [rdL, hn]
  rw [hC, hL]
  refine ⟨fun b o => bytes b ∧ b.length ≤ 65536 ∧ o.length ≤ 2048 ∧ rdAll l = (o ++ rdE b.length b).take 2048, fun b _ => b.length, ⟨hl, hn, by simp, by simp [rdAll]⟩, ?_⟩
  rintro b o ⟨hb, hbn, ho, hall⟩
  have full : 2048 ≤ o.length → o = rdAll l := fun h => by
    rw [hall, List.take_append_of_le_length h, List.take_of_length_le ho]
  have done : rdE b.length b = [] → o = rdAll l := fun h => by
    rw [hall, h, List.append_nil, List.take_of_length_le ho]
  have bx := ix_of (i := 0) hb
  have w1 := wrapI _ bx.1 bx.2
  have w2 := addI64 (x := 1) (y := ix b 0) (by omega) (by omega)
  simp only [true_and, and_true, true_implies, forall_eq, w1, w2]
  try simp only [w2]
  refine ⟨fun h => ?_, fun h => ?_⟩
  · have hpos : 0 < b.length := by simp [litCmp] at h; omega
    have hstep := rdE_step hpos bx.1
    refine ⟨⟨by omega, by omega⟩, fun h => ?_, fun h => ?_⟩
    · have hx : ix b 0 < b.length := by simpa [litCmp] using h
      rw [if_neg (by omega)] at hstep
      refine ⟨fun h => ?_, fun h => ?_⟩
      · have ho2 : o.length < 2048 := by simp [litCmp] at h; omega
        have e : (1 + ix b 0 - 1).toNat = (ix b 0).toNat := by congr 1; omega
        have hcut : bytes (List.take (ix b 0).toNat (List.drop 1 b)) := fun x hx => hb x (List.mem_of_mem_drop (List.mem_of_mem_take hx))
        have hdrop : bytes (List.drop (1 + ix b 0).toNat b) := fun x hx => hb x (List.mem_of_mem_drop hx)
        have hless : (List.drop (1 + ix b 0).toNat b).length < b.length := by simp; omega
        rw [e]
        refine ⟨⟨by omega, by omega⟩, by omega, by omega, hcut, fun hi => ⟨⟨by omega, by omega⟩, by omega, by omega, ⟨hdrop, by omega, by simp; omega, ?_⟩, hless⟩, fun hi => ⟨by omega, by omega, ⟨hdrop, by omega, ho, ?_⟩, hless⟩⟩
        · rw [hall, hstep, if_pos hi]; simp
        · rw [hall, hstep, hi]; simp
      · have ho2 : 2048 ≤ o.length := by simp [litCmp] at h; omega
        have := full ho2
        exact ⟨this, by rw [this]⟩
    · have hx : (b.length : Int) ≤ ix b 0 := by simpa [litCmp] using h
      rw [if_pos hx] at hstep
      have := done hstep
      exact ⟨this, by rw [this]⟩
  · have hz : b.length = 0 := by simp [litCmp] at h; simp [h]
    have := done (rdE_nil b hz)
    exact ⟨this, by rw [this]⟩
set_option maxRecDepth 10000 in
theorem wread_ok : conWRead.ok KK Try.prog 28 := by
  refine Con.of_vc ([(0, ⟨[(4, 55, tpE)], [(0, .d tB), (4, .is (.own 0))], [], [0], []⟩)]) ([]) TT_ok follows Try.func28 ?_ G20_ok (@toVC _ _ wread_vc ?_)
  · kernel_rfl
  · kernel_rfl
noncomputable def G21 : List (FuncId × Con) := (28, conWRead) :: G20
theorem G21_ok : GOK KK Try.prog G21 := GOK.cons (Callable.of Try.func28 (by kernel_rfl) (by kernel_rfl)) wread_ok G20_ok

set_option maxRecDepth 10000 in
theorem ebytes_vc :
  ∀ x0 : Int × Int × Int × (Int × Int × Int × Int) × Int × Int,
  ((rightE x0 = true) ∧
    (wfE x0)) →
  ((litCmp BinOp.eql (Prod.fst x0) (0 : Int) = true) →
   ∀ x1 : Int,
   (x1 = IntKind.wrap IntKind.u8 (Prod.fst (Prod.snd (Prod.snd x0)))) →
   (True) ∧
   (([(3 : Int), (0 : Int), x1, (0 : Int)] = cbE x0) ∧
    (((4 : Int) = (↑(List.length (cbE x0)) : Int)) ∧
     (True)))) ∧
  ((litCmp BinOp.eql (Prod.fst x0) (0 : Int) = false) →
   ((litCmp BinOp.eql (Prod.fst x0) (2 : Int) = true) →
    ∀ x2 : Int,
    (x2 = IntKind.wrap IntKind.u8 (Prod.fst (Prod.snd x0))) →
    ∀ x3 : Int,
    (x3 = IntKind.wrap IntKind.u8 (Prod.fst (Prod.snd (Prod.snd (Prod.snd (Prod.snd x0)))))) →
    ∀ x4 : Int,
    (x4 = IntKind.wrap IntKind.u8 (Prod.snd (Prod.snd (Prod.snd (Prod.snd (Prod.snd x0)))))) →
    (True) ∧
    (([(4 : Int), (2 : Int), x2, x3, x4] = cbE x0) ∧
     (((5 : Int) = (↑(List.length (cbE x0)) : Int)) ∧
      (True)))) ∧
   ((litCmp BinOp.eql (Prod.fst x0) (2 : Int) = false) →
    ((wfC (Prod.fst (Prod.snd (Prod.snd (Prod.snd x0))))) ∧
     (True →
      (True) ∧
      (([(27 : Int), (1 : Int), IntKind.wrap IntKind.u8 (Prod.fst (Prod.snd x0))] ++ callL (Prod.fst (Prod.snd (Prod.snd (Prod.snd x0)))) = cbE x0) ∧
       (((28 : Int) = (↑(List.length (cbE x0)) : Int)) ∧
        (True))))) ∧
    ((wfC (Prod.fst (Prod.snd (Prod.snd (Prod.snd x0))))) ∧
     (True →
      (True) ∧
      (([(27 : Int), (1 : Int), IntKind.wrap IntKind.u8 (Prod.fst (Prod.snd x0))] ++ callL (Prod.fst (Prod.snd (Prod.snd (Prod.snd x0)))) = cbE x0) ∧
       (((28 : Int) = (↑(List.length (cbE x0)) : Int)) ∧
        (True))))))) := by
  rintro ⟨k, w, n, ⟨op, a, b, c⟩, d, m⟩ ⟨h, hw⟩
  simp only [litCmp, beq_iff_eq, beq_eq_false_iff_ne, true_and, and_true, true_implies, forall_eq, wrap8]
  simp only [rightE, Bool.or_eq_true, Bool.and_eq_true, beq_iff_eq, decide_eq_true_eq] at h
  refine ⟨fun e => ?_, fun e0 => ⟨fun e => ?_, fun e1 => ?_⟩⟩
  · subst e
    simp at h
    simp [cbE, bsE]
    omega
  · subst e
    simp at h
    simp [cbE, bsE]
    omega
  · have e2 : k = 1 := by omega
    subst e2
    simp at h
    have hc : (cbE (1, w, 0, (op, a, b, c), 0, 0)).length = 28 := by simp [cbE, bsE, callL_len]
    simp_all [cbE, bsE, callL_len, wfE]
    omega
set_option maxRecDepth 10000 in
theorem ebytes_ok : conEBytes.ok KK Try.prog 41 := by
  refine Con.of_vc ([]) ([]) TT_ok follows Try.func41 ?_ G21_ok (@toVC _ _ ebytes_vc ?_)
  · kernel_rfl
  · kernel_rfl
noncomputable def G22 : List (FuncId × Con) := (41, conEBytes) :: G21
theorem G22_ok : GOK KK Try.prog G22 := GOK.cons (Callable.of Try.func41 (by kernel_rfl) (by kernel_rfl)) ebytes_ok G21_ok

set_option maxRecDepth 10000 in
theorem eall_vc :
  ∀ x0 : List (Int × Int × Int × (Int × Int × Int × Int) × Int × Int),
  ((List.length x0 ≤ (200000 : Nat)) ∧
    (∀ x1 : En,
     (List.Mem x1 x0) →
     (rightE x1 = true) ∧
     (wfE x1))) →
  ∃ x2 : Int → List Int → Prop,
  ∃ x3 : Int → List Int → Nat,
  (x2 (0 : Int) []) ∧
  (∀ x4 : Int,
   ∀ x5 : List Int,
   (x2 x4 x5) →
   ((litCmp BinOp.lss x4 (↑(List.length x0) : Int) = true) →
    (((0 : Int) ≤ x4) ∧
     (x4 < (↑(List.length x0) : Int))) ∧
    (∀ x6 : Int × Int × Int × (Int × Int × Int × Int) × Int × Int,
     (x6 = ix x0 x4) →
     ((rightE x6 = true) ∧
      (wfE x6)) ∧
     (True →
      (((0 : Int) ≤ (↑(List.length x5) : Int) + (↑(List.length (cbE x6)) : Int)) ∧
       (((↑(List.length x5) : Int) + (↑(List.length (cbE x6)) : Int)) * (1 : Int) ≤ (140737488355328 : Int))) ∧
      (∀ x7 : List Int,
       (x7 = x5 ++ cbE x6) →
       ∀ x8 : Int,
       (x8 = litArith BinOp.add IntKind.i64 x4 (1 : Int)) →
       (x0 = x0) ∧
       (((↑(List.length x0) : Int) = (↑(List.length x0) : Int)) ∧
        ((x2 x8 x7) ∧
         (x3 x8 x7 < x3 x4 x5))))))) ∧
   ((litCmp BinOp.lss x4 (↑(List.length x0) : Int) = false) →
    (True) ∧
    ((x5 = allE x0) ∧
     (((↑(List.length x5) : Int) = (↑(List.length (allE x0)) : Int)) ∧
      (True))))) := by
  rintro l ⟨hn, hl⟩
  refine ⟨fun k o => 0 ≤ k ∧ k ≤ l.length ∧ o = allE (l.take k.toNat), fun k _ => ((l.length : Int) - k).toNat, ⟨by omega, by omega, by simp [allE]⟩, ?_⟩
  rintro k o ⟨h0, h1, rfl⟩
  simp only [litCmp, decide_eq_true_eq, decide_eq_false_iff_not, true_and, and_true, true_implies, forall_eq]
  refine ⟨fun h => ?_, fun h => ?_⟩
  · have hm := hl _ (ix_mem h0 h)
    have hlen := allE_len (l.take k.toNat) (n := 200000) (by simp; omega)
    have := cbE_len (ix l k)
    rw [addI64 (by omega) (by omega)]
    exact ⟨⟨h0, h⟩, ⟨hm.1, hm.2⟩, ⟨by omega, by omega⟩, ⟨by omega, by omega, by rw [take_ix h0 h]; simp [allE]⟩, by omega⟩
  · have : k = l.length := by omega
    subst this; simp
set_option maxRecDepth 10000 in
theorem eall_ok : conAll.ok KK Try.prog 36 := by
  refine Con.of_vc ([(0, ⟨[], [(3, .is (.own 0)), (4, .d (.i .i64))], [], [0], []⟩)]) ([]) TT_ok follows Try.func36 ?_ G22_ok (@toVC _ _ eall_vc ?_)
  · kernel_rfl
  · kernel_rfl
noncomputable def G23 : List (FuncId × Con) := (36, conAll) :: G22
theorem G23_ok : GOK KK Try.prog G23 := GOK.cons (Callable.of Try.func36 (by kernel_rfl) (by kernel_rfl)) eall_ok G22_ok

set_option maxRecDepth 10000 in
theorem rone_vc :
  ∀ x0 : List Int,
  (bytes x0) →
  ∀ x1 : Int × Int × Int × (Int × Int × Int × Int) × Int × Int,
  (x1 = ((0 : Int), (0 : Int), (0 : Int), ((0 : Int), (0 : Int), (0 : Int), (0 : Int)), (0 : Int), (0 : Int))) →
  ((litCmp BinOp.eql (↑(List.length x0) : Int) (3 : Int) = true) →
   (((0 : Int) ≤ (0 : Int)) ∧
    ((0 : Int) < (↑(List.length x0) : Int))) ∧
   (∀ x2 : Int,
    (x2 = ix x0 (0 : Int)) →
    ((litCmp BinOp.eql x2 (0 : Int) = true) →
     (((0 : Int) ≤ (2 : Int)) ∧
      ((2 : Int) < (↑(List.length x0) : Int))) ∧
     ((((0 : Int) ≤ (1 : Int)) ∧
       ((1 : Int) < (↑(List.length x0) : Int))) ∧
      (((litCmp BinOp.eql (↑(List.length x0) : Int) (4 : Int) = true) →
        (((0 : Int) ≤ (0 : Int)) ∧
         ((0 : Int) < (↑(List.length x0) : Int))) ∧
        (∀ x3 : Int,
         (x3 = ix x0 (0 : Int)) →
         ((litCmp BinOp.eql x3 (2 : Int) = true) →
          (((0 : Int) ≤ (3 : Int)) ∧
           ((3 : Int) < (↑(List.length x0) : Int))) ∧
          ((((0 : Int) ≤ (2 : Int)) ∧
            ((2 : Int) < (↑(List.length x0) : Int))) ∧
           ((((0 : Int) ≤ (1 : Int)) ∧
             ((1 : Int) < (↑(List.length x0) : Int))) ∧
            (((litCmp BinOp.eql (↑(List.length x0) : Int) (27 : Int) = true) →
              (((0 : Int) ≤ (0 : Int)) ∧
               ((0 : Int) < (↑(List.length x0) : Int))) ∧
              (∀ x4 : Int,
               (x4 = ix x0 (0 : Int)) →
               ((litCmp BinOp.eql x4 (1 : Int) = true) →
                ((2 : Int) ≤ (↑(List.length x0) : Int)) ∧
                ((bytes (List.drop (2 : Nat) x0)) ∧
                 (True →
                  ∀ x5 : Int × Int × Int × Int,
                  (x5 = readC (List.drop (2 : Nat) x0)) →
                  ((readOK (List.drop (2 : Nat) x0) = true) →
                   (((0 : Int) ≤ (1 : Int)) ∧
                    ((1 : Int) < (↑(List.length x0) : Int))) ∧
                   ((True) ∧
                    (True →
                     (((!rightE ((1 : Int), IntKind.wrap IntKind.i64 (ix x0 (1 : Int)), (0 : Int), x5, (0 : Int), (0 : Int))) = true) →
                      ∀ x6 : Int × Int × Int × (Int × Int × Int × Int) × Int × Int,
                      (x6 = ((0 : Int), (0 : Int), (0 : Int), ((0 : Int), (0 : Int), (0 : Int), (0 : Int)), (0 : Int), (0 : Int))) →
                      (True) ∧
                      ((x6 = oneE x0) ∧
                       ((false = isE x0) ∧
                        (True)))) ∧
                     (((!rightE ((1 : Int), IntKind.wrap IntKind.i64 (ix x0 (1 : Int)), (0 : Int), x5, (0 : Int), (0 : Int))) = false) →
                      ∀ x7 : Int × Int × Int × (Int × Int × Int × Int) × Int × Int,
                      (x7 = ((1 : Int), IntKind.wrap IntKind.i64 (ix x0 (1 : Int)), (0 : Int), x5, (0 : Int), (0 : Int))) →
                      (True) ∧
                      ((x7 = oneE x0) ∧
                       ((true = isE x0) ∧
                        (True))))))) ∧
                  ((readOK (List.drop (2 : Nat) x0) = false) →
                   (True) ∧
                   (True →
                    (((!rightE ((2 : Int), IntKind.wrap IntKind.i64 (ix x0 (1 : Int)), (0 : Int), ((0 : Int), (0 : Int), (0 : Int), (0 : Int)), IntKind.wrap IntKind.i64 (ix x0 (2 : Int)), IntKind.wrap IntKind.i64 (ix x0 (3 : Int)))) = true) →
                     ∀ x8 : Int × Int × Int × (Int × Int × Int × Int) × Int × Int,
                     (x8 = ((0 : Int), (0 : Int), (0 : Int), ((0 : Int), (0 : Int), (0 : Int), (0 : Int)), (0 : Int), (0 : Int))) →
                     (True) ∧
                     ((x8 = oneE x0) ∧
                      ((false = isE x0) ∧
                       (True)))) ∧
                    (((!rightE ((2 : Int), IntKind.wrap IntKind.i64 (ix x0 (1 : Int)), (0 : Int), ((0 : Int), (0 : Int), (0 : Int), (0 : Int)), IntKind.wrap IntKind.i64 (ix x0 (2 : Int)), IntKind.wrap IntKind.i64 (ix x0 (3 : Int)))) = false) →
                     ∀ x9 : Int × Int × Int × (Int × Int × Int × Int) × Int × Int,
                     (x9 = ((2 : Int), IntKind.wrap IntKind.i64 (ix x0 (1 : Int)), (0 : Int), ((0 : Int), (0 : Int), (0 : Int), (0 : Int)), IntKind.wrap IntKind.i64 (ix x0 (2 : Int)), IntKind.wrap IntKind.i64 (ix x0 (3 : Int)))) →
                     (True) ∧
                     ((x9 = oneE x0) ∧
                      ((true = isE x0) ∧
                       (True))))))))) ∧
               ((litCmp BinOp.eql x4 (1 : Int) = false) →
                (True) ∧
                (True →
                 (((!rightE ((2 : Int), IntKind.wrap IntKind.i64 (ix x0 (1 : Int)), (0 : Int), ((0 : Int), (0 : Int), (0 : Int), (0 : Int)), IntKind.wrap IntKind.i64 (ix x0 (2 : Int)), IntKind.wrap IntKind.i64 (ix x0 (3 : Int)))) = true) →
                  ∀ x10 : Int × Int × Int × (Int × Int × Int × Int) × Int × Int,
                  (x10 = ((0 : Int), (0 : Int), (0 : Int), ((0 : Int), (0 : Int), (0 : Int), (0 : Int)), (0 : Int), (0 : Int))) →
                  (True) ∧
                  ((x10 = oneE x0) ∧
                   ((false = isE x0) ∧
                    (True)))) ∧
                 (((!rightE ((2 : Int), IntKind.wrap IntKind.i64 (ix x0 (1 : Int)), (0 : Int), ((0 : Int), (0 : Int), (0 : Int), (0 : Int)), IntKind.wrap IntKind.i64 (ix x0 (2 : Int)), IntKind.wrap IntKind.i64 (ix x0 (3 : Int)))) = false) →
                  ∀ x11 : Int × Int × Int × (Int × Int × Int × Int) × Int × Int,
                  (x11 = ((2 : Int), IntKind.wrap IntKind.i64 (ix x0 (1 : Int)), (0 : Int), ((0 : Int), (0 : Int), (0 : Int), (0 : Int)), IntKind.wrap IntKind.i64 (ix x0 (2 : Int)), IntKind.wrap IntKind.i64 (ix x0 (3 : Int)))) →
                  (True) ∧
                  ((x11 = oneE x0) ∧
                   ((true = isE x0) ∧
                    (True)))))))) ∧
             ((litCmp BinOp.eql (↑(List.length x0) : Int) (27 : Int) = false) →
              (True) ∧
              (True →
               (((!rightE ((2 : Int), IntKind.wrap IntKind.i64 (ix x0 (1 : Int)), (0 : Int), ((0 : Int), (0 : Int), (0 : Int), (0 : Int)), IntKind.wrap IntKind.i64 (ix x0 (2 : Int)), IntKind.wrap IntKind.i64 (ix x0 (3 : Int)))) = true) →
                ∀ x12 : Int × Int × Int × (Int × Int × Int × Int) × Int × Int,
                (x12 = ((0 : Int), (0 : Int), (0 : Int), ((0 : Int), (0 : Int), (0 : Int), (0 : Int)), (0 : Int), (0 : Int))) →
                (True) ∧
                ((x12 = oneE x0) ∧
                 ((false = isE x0) ∧
                  (True)))) ∧
               (((!rightE ((2 : Int), IntKind.wrap IntKind.i64 (ix x0 (1 : Int)), (0 : Int), ((0 : Int), (0 : Int), (0 : Int), (0 : Int)), IntKind.wrap IntKind.i64 (ix x0 (2 : Int)), IntKind.wrap IntKind.i64 (ix x0 (3 : Int)))) = false) →
                ∀ x13 : Int × Int × Int × (Int × Int × Int × Int) × Int × Int,
                (x13 = ((2 : Int), IntKind.wrap IntKind.i64 (ix x0 (1 : Int)), (0 : Int), ((0 : Int), (0 : Int), (0 : Int), (0 : Int)), IntKind.wrap IntKind.i64 (ix x0 (2 : Int)), IntKind.wrap IntKind.i64 (ix x0 (3 : Int)))) →
                (True) ∧
                ((x13 = oneE x0) ∧
                 ((true = isE x0) ∧
                  (True)))))))))) ∧
         ((litCmp BinOp.eql x3 (2 : Int) = false) →
          ((litCmp BinOp.eql (↑(List.length x0) : Int) (27 : Int) = true) →
           (((0 : Int) ≤ (0 : Int)) ∧
            ((0 : Int) < (↑(List.length x0) : Int))) ∧
           (∀ x14 : Int,
            (x14 = ix x0 (0 : Int)) →
            ((litCmp BinOp.eql x14 (1 : Int) = true) →
             ((2 : Int) ≤ (↑(List.length x0) : Int)) ∧
             ((bytes (List.drop (2 : Nat) x0)) ∧
              (True →
               ∀ x15 : Int × Int × Int × Int,
               (x15 = readC (List.drop (2 : Nat) x0)) →
               ((readOK (List.drop (2 : Nat) x0) = true) →
                (((0 : Int) ≤ (1 : Int)) ∧
                 ((1 : Int) < (↑(List.length x0) : Int))) ∧
                ((True) ∧
                 (True →
                  (((!rightE ((1 : Int), IntKind.wrap IntKind.i64 (ix x0 (1 : Int)), (0 : Int), x15, (0 : Int), (0 : Int))) = true) →
                   ∀ x16 : Int × Int × Int × (Int × Int × Int × Int) × Int × Int,
                   (x16 = ((0 : Int), (0 : Int), (0 : Int), ((0 : Int), (0 : Int), (0 : Int), (0 : Int)), (0 : Int), (0 : Int))) →
                   (True) ∧
                   ((x16 = oneE x0) ∧
                    ((false = isE x0) ∧
                     (True)))) ∧
                  (((!rightE ((1 : Int), IntKind.wrap IntKind.i64 (ix x0 (1 : Int)), (0 : Int), x15, (0 : Int), (0 : Int))) = false) →
                   ∀ x17 : Int × Int × Int × (Int × Int × Int × Int) × Int × Int,
                   (x17 = ((1 : Int), IntKind.wrap IntKind.i64 (ix x0 (1 : Int)), (0 : Int), x15, (0 : Int), (0 : Int))) →
                   (True) ∧
                   ((x17 = oneE x0) ∧
                    ((true = isE x0) ∧
                     (True))))))) ∧
               ((readOK (List.drop (2 : Nat) x0) = false) →
                (True) ∧
                (True →
                 (((!rightE ((0 : Int), (0 : Int), litArith BinOp.add IntKind.i64 (IntKind.wrap IntKind.i64 (ix x0 (1 : Int))) (litArith BinOp.mul IntKind.i64 (256 : Int) (IntKind.wrap IntKind.i64 (ix x0 (2 : Int)))), ((0 : Int), (0 : Int), (0 : Int), (0 : Int)), (0 : Int), (0 : Int))) = true) →
                  ∀ x18 : Int × Int × Int × (Int × Int × Int × Int) × Int × Int,
                  (x18 = ((0 : Int), (0 : Int), (0 : Int), ((0 : Int), (0 : Int), (0 : Int), (0 : Int)), (0 : Int), (0 : Int))) →
                  (True) ∧
                  ((x18 = oneE x0) ∧
                   ((false = isE x0) ∧
                    (True)))) ∧
                 (((!rightE ((0 : Int), (0 : Int), litArith BinOp.add IntKind.i64 (IntKind.wrap IntKind.i64 (ix x0 (1 : Int))) (litArith BinOp.mul IntKind.i64 (256 : Int) (IntKind.wrap IntKind.i64 (ix x0 (2 : Int)))), ((0 : Int), (0 : Int), (0 : Int), (0 : Int)), (0 : Int), (0 : Int))) = false) →
                  ∀ x19 : Int × Int × Int × (Int × Int × Int × Int) × Int × Int,
                  (x19 = ((0 : Int), (0 : Int), litArith BinOp.add IntKind.i64 (IntKind.wrap IntKind.i64 (ix x0 (1 : Int))) (litArith BinOp.mul IntKind.i64 (256 : Int) (IntKind.wrap IntKind.i64 (ix x0 (2 : Int)))), ((0 : Int), (0 : Int), (0 : Int), (0 : Int)), (0 : Int), (0 : Int))) →
                  (True) ∧
                  ((x19 = oneE x0) ∧
                   ((true = isE x0) ∧
                    (True))))))))) ∧
            ((litCmp BinOp.eql x14 (1 : Int) = false) →
             (True) ∧
             (True →
              (((!rightE ((0 : Int), (0 : Int), litArith BinOp.add IntKind.i64 (IntKind.wrap IntKind.i64 (ix x0 (1 : Int))) (litArith BinOp.mul IntKind.i64 (256 : Int) (IntKind.wrap IntKind.i64 (ix x0 (2 : Int)))), ((0 : Int), (0 : Int), (0 : Int), (0 : Int)), (0 : Int), (0 : Int))) = true) →
               ∀ x20 : Int × Int × Int × (Int × Int × Int × Int) × Int × Int,
               (x20 = ((0 : Int), (0 : Int), (0 : Int), ((0 : Int), (0 : Int), (0 : Int), (0 : Int)), (0 : Int), (0 : Int))) →
               (True) ∧
               ((x20 = oneE x0) ∧
                ((false = isE x0) ∧
                 (True)))) ∧
              (((!rightE ((0 : Int), (0 : Int), litArith BinOp.add IntKind.i64 (IntKind.wrap IntKind.i64 (ix x0 (1 : Int))) (litArith BinOp.mul IntKind.i64 (256 : Int) (IntKind.wrap IntKind.i64 (ix x0 (2 : Int)))), ((0 : Int), (0 : Int), (0 : Int), (0 : Int)), (0 : Int), (0 : Int))) = false) →
               ∀ x21 : Int × Int × Int × (Int × Int × Int × Int) × Int × Int,
               (x21 = ((0 : Int), (0 : Int), litArith BinOp.add IntKind.i64 (IntKind.wrap IntKind.i64 (ix x0 (1 : Int))) (litArith BinOp.mul IntKind.i64 (256 : Int) (IntKind.wrap IntKind.i64 (ix x0 (2 : Int)))), ((0 : Int), (0 : Int), (0 : Int), (0 : Int)), (0 : Int), (0 : Int))) →
               (True) ∧
               ((x21 = oneE x0) ∧
                ((true = isE x0) ∧
                 (True)))))))) ∧
          ((litCmp BinOp.eql (↑(List.length x0) : Int) (27 : Int) = false) →
           (True) ∧
           (True →
            (((!rightE ((0 : Int), (0 : Int), litArith BinOp.add IntKind.i64 (IntKind.wrap IntKind.i64 (ix x0 (1 : Int))) (litArith BinOp.mul IntKind.i64 (256 : Int) (IntKind.wrap IntKind.i64 (ix x0 (2 : Int)))), ((0 : Int), (0 : Int), (0 : Int), (0 : Int)), (0 : Int), (0 : Int))) = true) →
             ∀ x22 : Int × Int × Int × (Int × Int × Int × Int) × Int × Int,
             (x22 = ((0 : Int), (0 : Int), (0 : Int), ((0 : Int), (0 : Int), (0 : Int), (0 : Int)), (0 : Int), (0 : Int))) →
             (True) ∧
             ((x22 = oneE x0) ∧
              ((false = isE x0) ∧
               (True)))) ∧
            (((!rightE ((0 : Int), (0 : Int), litArith BinOp.add IntKind.i64 (IntKind.wrap IntKind.i64 (ix x0 (1 : Int))) (litArith BinOp.mul IntKind.i64 (256 : Int) (IntKind.wrap IntKind.i64 (ix x0 (2 : Int)))), ((0 : Int), (0 : Int), (0 : Int), (0 : Int)), (0 : Int), (0 : Int))) = false) →
             ∀ x23 : Int × Int × Int × (Int × Int × Int × Int) × Int × Int,
             (x23 = ((0 : Int), (0 : Int), litArith BinOp.add IntKind.i64 (IntKind.wrap IntKind.i64 (ix x0 (1 : Int))) (litArith BinOp.mul IntKind.i64 (256 : Int) (IntKind.wrap IntKind.i64 (ix x0 (2 : Int)))), ((0 : Int), (0 : Int), (0 : Int), (0 : Int)), (0 : Int), (0 : Int))) →
             (True) ∧
             ((x23 = oneE x0) ∧
              ((true = isE x0) ∧
               (True))))))))) ∧
       ((litCmp BinOp.eql (↑(List.length x0) : Int) (4 : Int) = false) →
        ((litCmp BinOp.eql (↑(List.length x0) : Int) (27 : Int) = true) →
         (((0 : Int) ≤ (0 : Int)) ∧
          ((0 : Int) < (↑(List.length x0) : Int))) ∧
         (∀ x24 : Int,
          (x24 = ix x0 (0 : Int)) →
          ((litCmp BinOp.eql x24 (1 : Int) = true) →
           ((2 : Int) ≤ (↑(List.length x0) : Int)) ∧
           ((bytes (List.drop (2 : Nat) x0)) ∧
            (True →
             ∀ x25 : Int × Int × Int × Int,
             (x25 = readC (List.drop (2 : Nat) x0)) →
             ((readOK (List.drop (2 : Nat) x0) = true) →
              (((0 : Int) ≤ (1 : Int)) ∧
               ((1 : Int) < (↑(List.length x0) : Int))) ∧
              ((True) ∧
               (True →
                (((!rightE ((1 : Int), IntKind.wrap IntKind.i64 (ix x0 (1 : Int)), (0 : Int), x25, (0 : Int), (0 : Int))) = true) →
                 ∀ x26 : Int × Int × Int × (Int × Int × Int × Int) × Int × Int,
                 (x26 = ((0 : Int), (0 : Int), (0 : Int), ((0 : Int), (0 : Int), (0 : Int), (0 : Int)), (0 : Int), (0 : Int))) →
                 (True) ∧
                 ((x26 = oneE x0) ∧
                  ((false = isE x0) ∧
                   (True)))) ∧
                (((!rightE ((1 : Int), IntKind.wrap IntKind.i64 (ix x0 (1 : Int)), (0 : Int), x25, (0 : Int), (0 : Int))) = false) →
                 ∀ x27 : Int × Int × Int × (Int × Int × Int × Int) × Int × Int,
                 (x27 = ((1 : Int), IntKind.wrap IntKind.i64 (ix x0 (1 : Int)), (0 : Int), x25, (0 : Int), (0 : Int))) →
                 (True) ∧
                 ((x27 = oneE x0) ∧
                  ((true = isE x0) ∧
                   (True))))))) ∧
             ((readOK (List.drop (2 : Nat) x0) = false) →
              (True) ∧
              (True →
               (((!rightE ((0 : Int), (0 : Int), litArith BinOp.add IntKind.i64 (IntKind.wrap IntKind.i64 (ix x0 (1 : Int))) (litArith BinOp.mul IntKind.i64 (256 : Int) (IntKind.wrap IntKind.i64 (ix x0 (2 : Int)))), ((0 : Int), (0 : Int), (0 : Int), (0 : Int)), (0 : Int), (0 : Int))) = true) →
                ∀ x28 : Int × Int × Int × (Int × Int × Int × Int) × Int × Int,
                (x28 = ((0 : Int), (0 : Int), (0 : Int), ((0 : Int), (0 : Int), (0 : Int), (0 : Int)), (0 : Int), (0 : Int))) →
                (True) ∧
                ((x28 = oneE x0) ∧
                 ((false = isE x0) ∧
                  (True)))) ∧
               (((!rightE ((0 : Int), (0 : Int), litArith BinOp.add IntKind.i64 (IntKind.wrap IntKind.i64 (ix x0 (1 : Int))) (litArith BinOp.mul IntKind.i64 (256 : Int) (IntKind.wrap IntKind.i64 (ix x0 (2 : Int)))), ((0 : Int), (0 : Int), (0 : Int), (0 : Int)), (0 : Int), (0 : Int))) = false) →
                ∀ x29 : Int × Int × Int × (Int × Int × Int × Int) × Int × Int,
                (x29 = ((0 : Int), (0 : Int), litArith BinOp.add IntKind.i64 (IntKind.wrap IntKind.i64 (ix x0 (1 : Int))) (litArith BinOp.mul IntKind.i64 (256 : Int) (IntKind.wrap IntKind.i64 (ix x0 (2 : Int)))), ((0 : Int), (0 : Int), (0 : Int), (0 : Int)), (0 : Int), (0 : Int))) →
                (True) ∧
                ((x29 = oneE x0) ∧
                 ((true = isE x0) ∧
                  (True))))))))) ∧
          ((litCmp BinOp.eql x24 (1 : Int) = false) →
           (True) ∧
           (True →
            (((!rightE ((0 : Int), (0 : Int), litArith BinOp.add IntKind.i64 (IntKind.wrap IntKind.i64 (ix x0 (1 : Int))) (litArith BinOp.mul IntKind.i64 (256 : Int) (IntKind.wrap IntKind.i64 (ix x0 (2 : Int)))), ((0 : Int), (0 : Int), (0 : Int), (0 : Int)), (0 : Int), (0 : Int))) = true) →
             ∀ x30 : Int × Int × Int × (Int × Int × Int × Int) × Int × Int,
             (x30 = ((0 : Int), (0 : Int), (0 : Int), ((0 : Int), (0 : Int), (0 : Int), (0 : Int)), (0 : Int), (0 : Int))) →
             (True) ∧
             ((x30 = oneE x0) ∧
              ((false = isE x0) ∧
               (True)))) ∧
            (((!rightE ((0 : Int), (0 : Int), litArith BinOp.add IntKind.i64 (IntKind.wrap IntKind.i64 (ix x0 (1 : Int))) (litArith BinOp.mul IntKind.i64 (256 : Int) (IntKind.wrap IntKind.i64 (ix x0 (2 : Int)))), ((0 : Int), (0 : Int), (0 : Int), (0 : Int)), (0 : Int), (0 : Int))) = false) →
             ∀ x31 : Int × Int × Int × (Int × Int × Int × Int) × Int × Int,
             (x31 = ((0 : Int), (0 : Int), litArith BinOp.add IntKind.i64 (IntKind.wrap IntKind.i64 (ix x0 (1 : Int))) (litArith BinOp.mul IntKind.i64 (256 : Int) (IntKind.wrap IntKind.i64 (ix x0 (2 : Int)))), ((0 : Int), (0 : Int), (0 : Int), (0 : Int)), (0 : Int), (0 : Int))) →
             (True) ∧
             ((x31 = oneE x0) ∧
              ((true = isE x0) ∧
               (True)))))))) ∧
        ((litCmp BinOp.eql (↑(List.length x0) : Int) (27 : Int) = false) →
         (True) ∧
         (True →
          (((!rightE ((0 : Int), (0 : Int), litArith BinOp.add IntKind.i64 (IntKind.wrap IntKind.i64 (ix x0 (1 : Int))) (litArith BinOp.mul IntKind.i64 (256 : Int) (IntKind.wrap IntKind.i64 (ix x0 (2 : Int)))), ((0 : Int), (0 : Int), (0 : Int), (0 : Int)), (0 : Int), (0 : Int))) = true) →
           ∀ x32 : Int × Int × Int × (Int × Int × Int × Int) × Int × Int,
           (x32 = ((0 : Int), (0 : Int), (0 : Int), ((0 : Int), (0 : Int), (0 : Int), (0 : Int)), (0 : Int), (0 : Int))) →
           (True) ∧
           ((x32 = oneE x0) ∧
            ((false = isE x0) ∧
             (True)))) ∧
          (((!rightE ((0 : Int), (0 : Int), litArith BinOp.add IntKind.i64 (IntKind.wrap IntKind.i64 (ix x0 (1 : Int))) (litArith BinOp.mul IntKind.i64 (256 : Int) (IntKind.wrap IntKind.i64 (ix x0 (2 : Int)))), ((0 : Int), (0 : Int), (0 : Int), (0 : Int)), (0 : Int), (0 : Int))) = false) →
           ∀ x33 : Int × Int × Int × (Int × Int × Int × Int) × Int × Int,
           (x33 = ((0 : Int), (0 : Int), litArith BinOp.add IntKind.i64 (IntKind.wrap IntKind.i64 (ix x0 (1 : Int))) (litArith BinOp.mul IntKind.i64 (256 : Int) (IntKind.wrap IntKind.i64 (ix x0 (2 : Int)))), ((0 : Int), (0 : Int), (0 : Int), (0 : Int)), (0 : Int), (0 : Int))) →
           (True) ∧
           ((x33 = oneE x0) ∧
            ((true = isE x0) ∧
             (True)))))))))) ∧
    ((litCmp BinOp.eql x2 (0 : Int) = false) →
     ((litCmp BinOp.eql (↑(List.length x0) : Int) (4 : Int) = true) →
      (((0 : Int) ≤ (0 : Int)) ∧
       ((0 : Int) < (↑(List.length x0) : Int))) ∧
      (∀ x34 : Int,
       (x34 = ix x0 (0 : Int)) →
       ((litCmp BinOp.eql x34 (2 : Int) = true) →
        (((0 : Int) ≤ (3 : Int)) ∧
         ((3 : Int) < (↑(List.length x0) : Int))) ∧
        ((((0 : Int) ≤ (2 : Int)) ∧
          ((2 : Int) < (↑(List.length x0) : Int))) ∧
         ((((0 : Int) ≤ (1 : Int)) ∧
           ((1 : Int) < (↑(List.length x0) : Int))) ∧
          (((litCmp BinOp.eql (↑(List.length x0) : Int) (27 : Int) = true) →
            (((0 : Int) ≤ (0 : Int)) ∧
             ((0 : Int) < (↑(List.length x0) : Int))) ∧
            (∀ x35 : Int,
             (x35 = ix x0 (0 : Int)) →
             ((litCmp BinOp.eql x35 (1 : Int) = true) →
              ((2 : Int) ≤ (↑(List.length x0) : Int)) ∧
              ((bytes (List.drop (2 : Nat) x0)) ∧
               (True →
                ∀ x36 : Int × Int × Int × Int,
                (x36 = readC (List.drop (2 : Nat) x0)) →
                ((readOK (List.drop (2 : Nat) x0) = true) →
                 (((0 : Int) ≤ (1 : Int)) ∧
                  ((1 : Int) < (↑(List.length x0) : Int))) ∧
                 ((True) ∧
                  (True →
                   (((!rightE ((1 : Int), IntKind.wrap IntKind.i64 (ix x0 (1 : Int)), (0 : Int), x36, (0 : Int), (0 : Int))) = true) →
                    ∀ x37 : Int × Int × Int × (Int × Int × Int × Int) × Int × Int,
                    (x37 = ((0 : Int), (0 : Int), (0 : Int), ((0 : Int), (0 : Int), (0 : Int), (0 : Int)), (0 : Int), (0 : Int))) →
                    (True) ∧
                    ((x37 = oneE x0) ∧
                     ((false = isE x0) ∧
                      (True)))) ∧
                   (((!rightE ((1 : Int), IntKind.wrap IntKind.i64 (ix x0 (1 : Int)), (0 : Int), x36, (0 : Int), (0 : Int))) = false) →
                    ∀ x38 : Int × Int × Int × (Int × Int × Int × Int) × Int × Int,
                    (x38 = ((1 : Int), IntKind.wrap IntKind.i64 (ix x0 (1 : Int)), (0 : Int), x36, (0 : Int), (0 : Int))) →
                    (True) ∧
                    ((x38 = oneE x0) ∧
                     ((true = isE x0) ∧
                      (True))))))) ∧
                ((readOK (List.drop (2 : Nat) x0) = false) →
                 (True) ∧
                 (True →
                  (((!rightE ((2 : Int), IntKind.wrap IntKind.i64 (ix x0 (1 : Int)), (0 : Int), ((0 : Int), (0 : Int), (0 : Int), (0 : Int)), IntKind.wrap IntKind.i64 (ix x0 (2 : Int)), IntKind.wrap IntKind.i64 (ix x0 (3 : Int)))) = true) →
                   ∀ x39 : Int × Int × Int × (Int × Int × Int × Int) × Int × Int,
                   (x39 = ((0 : Int), (0 : Int), (0 : Int), ((0 : Int), (0 : Int), (0 : Int), (0 : Int)), (0 : Int), (0 : Int))) →
                   (True) ∧
                   ((x39 = oneE x0) ∧
                    ((false = isE x0) ∧
                     (True)))) ∧
                  (((!rightE ((2 : Int), IntKind.wrap IntKind.i64 (ix x0 (1 : Int)), (0 : Int), ((0 : Int), (0 : Int), (0 : Int), (0 : Int)), IntKind.wrap IntKind.i64 (ix x0 (2 : Int)), IntKind.wrap IntKind.i64 (ix x0 (3 : Int)))) = false) →
                   ∀ x40 : Int × Int × Int × (Int × Int × Int × Int) × Int × Int,
                   (x40 = ((2 : Int), IntKind.wrap IntKind.i64 (ix x0 (1 : Int)), (0 : Int), ((0 : Int), (0 : Int), (0 : Int), (0 : Int)), IntKind.wrap IntKind.i64 (ix x0 (2 : Int)), IntKind.wrap IntKind.i64 (ix x0 (3 : Int)))) →
                   (True) ∧
                   ((x40 = oneE x0) ∧
                    ((true = isE x0) ∧
                     (True))))))))) ∧
             ((litCmp BinOp.eql x35 (1 : Int) = false) →
              (True) ∧
              (True →
               (((!rightE ((2 : Int), IntKind.wrap IntKind.i64 (ix x0 (1 : Int)), (0 : Int), ((0 : Int), (0 : Int), (0 : Int), (0 : Int)), IntKind.wrap IntKind.i64 (ix x0 (2 : Int)), IntKind.wrap IntKind.i64 (ix x0 (3 : Int)))) = true) →
                ∀ x41 : Int × Int × Int × (Int × Int × Int × Int) × Int × Int,
                (x41 = ((0 : Int), (0 : Int), (0 : Int), ((0 : Int), (0 : Int), (0 : Int), (0 : Int)), (0 : Int), (0 : Int))) →
                (True) ∧
                ((x41 = oneE x0) ∧
                 ((false = isE x0) ∧
                  (True)))) ∧
               (((!rightE ((2 : Int), IntKind.wrap IntKind.i64 (ix x0 (1 : Int)), (0 : Int), ((0 : Int), (0 : Int), (0 : Int), (0 : Int)), IntKind.wrap IntKind.i64 (ix x0 (2 : Int)), IntKind.wrap IntKind.i64 (ix x0 (3 : Int)))) = false) →
                ∀ x42 : Int × Int × Int × (Int × Int × Int × Int) × Int × Int,
                (x42 = ((2 : Int), IntKind.wrap IntKind.i64 (ix x0 (1 : Int)), (0 : Int), ((0 : Int), (0 : Int), (0 : Int), (0 : Int)), IntKind.wrap IntKind.i64 (ix x0 (2 : Int)), IntKind.wrap IntKind.i64 (ix x0 (3 : Int)))) →
                (True) ∧
                ((x42 = oneE x0) ∧
                 ((true = isE x0) ∧
                  (True)))))))) ∧
           ((litCmp BinOp.eql (↑(List.length x0) : Int) (27 : Int) = false) →
            (True) ∧
            (True →
             (((!rightE ((2 : Int), IntKind.wrap IntKind.i64 (ix x0 (1 : Int)), (0 : Int), ((0 : Int), (0 : Int), (0 : Int), (0 : Int)), IntKind.wrap IntKind.i64 (ix x0 (2 : Int)), IntKind.wrap IntKind.i64 (ix x0 (3 : Int)))) = true) →
              ∀ x43 : Int × Int × Int × (Int × Int × Int × Int) × Int × Int,
              (x43 = ((0 : Int), (0 : Int), (0 : Int), ((0 : Int), (0 : Int), (0 : Int), (0 : Int)), (0 : Int), (0 : Int))) →
              (True) ∧
              ((x43 = oneE x0) ∧
               ((false = isE x0) ∧
                (True)))) ∧
             (((!rightE ((2 : Int), IntKind.wrap IntKind.i64 (ix x0 (1 : Int)), (0 : Int), ((0 : Int), (0 : Int), (0 : Int), (0 : Int)), IntKind.wrap IntKind.i64 (ix x0 (2 : Int)), IntKind.wrap IntKind.i64 (ix x0 (3 : Int)))) = false) →
              ∀ x44 : Int × Int × Int × (Int × Int × Int × Int) × Int × Int,
              (x44 = ((2 : Int), IntKind.wrap IntKind.i64 (ix x0 (1 : Int)), (0 : Int), ((0 : Int), (0 : Int), (0 : Int), (0 : Int)), IntKind.wrap IntKind.i64 (ix x0 (2 : Int)), IntKind.wrap IntKind.i64 (ix x0 (3 : Int)))) →
              (True) ∧
              ((x44 = oneE x0) ∧
               ((true = isE x0) ∧
                (True)))))))))) ∧
       ((litCmp BinOp.eql x34 (2 : Int) = false) →
        ((litCmp BinOp.eql (↑(List.length x0) : Int) (27 : Int) = true) →
         (((0 : Int) ≤ (0 : Int)) ∧
          ((0 : Int) < (↑(List.length x0) : Int))) ∧
         (∀ x45 : Int,
          (x45 = ix x0 (0 : Int)) →
          ((litCmp BinOp.eql x45 (1 : Int) = true) →
           ((2 : Int) ≤ (↑(List.length x0) : Int)) ∧
           ((bytes (List.drop (2 : Nat) x0)) ∧
            (True →
             ∀ x46 : Int × Int × Int × Int,
             (x46 = readC (List.drop (2 : Nat) x0)) →
             ((readOK (List.drop (2 : Nat) x0) = true) →
              (((0 : Int) ≤ (1 : Int)) ∧
               ((1 : Int) < (↑(List.length x0) : Int))) ∧
              ((True) ∧
               (True →
                (((!rightE ((1 : Int), IntKind.wrap IntKind.i64 (ix x0 (1 : Int)), (0 : Int), x46, (0 : Int), (0 : Int))) = true) →
                 ∀ x47 : Int × Int × Int × (Int × Int × Int × Int) × Int × Int,
                 (x47 = ((0 : Int), (0 : Int), (0 : Int), ((0 : Int), (0 : Int), (0 : Int), (0 : Int)), (0 : Int), (0 : Int))) →
                 (True) ∧
                 ((x47 = oneE x0) ∧
                  ((false = isE x0) ∧
                   (True)))) ∧
                (((!rightE ((1 : Int), IntKind.wrap IntKind.i64 (ix x0 (1 : Int)), (0 : Int), x46, (0 : Int), (0 : Int))) = false) →
                 ∀ x48 : Int × Int × Int × (Int × Int × Int × Int) × Int × Int,
                 (x48 = ((1 : Int), IntKind.wrap IntKind.i64 (ix x0 (1 : Int)), (0 : Int), x46, (0 : Int), (0 : Int))) →
                 (True) ∧
                 ((x48 = oneE x0) ∧
                  ((true = isE x0) ∧
                   (True))))))) ∧
             ((readOK (List.drop (2 : Nat) x0) = false) →
              (True) ∧
              (True →
               (((!rightE x1) = true) →
                ∀ x49 : Int × Int × Int × (Int × Int × Int × Int) × Int × Int,
                (x49 = ((0 : Int), (0 : Int), (0 : Int), ((0 : Int), (0 : Int), (0 : Int), (0 : Int)), (0 : Int), (0 : Int))) →
                (True) ∧
                ((x49 = oneE x0) ∧
                 ((false = isE x0) ∧
                  (True)))) ∧
               (((!rightE x1) = false) →
                ∀ x50 : Int × Int × Int × (Int × Int × Int × Int) × Int × Int,
                (x50 = x1) →
                (True) ∧
                ((x50 = oneE x0) ∧
                 ((true = isE x0) ∧
                  (True))))))))) ∧
          ((litCmp BinOp.eql x45 (1 : Int) = false) →
           (True) ∧
           (True →
            (((!rightE x1) = true) →
             ∀ x51 : Int × Int × Int × (Int × Int × Int × Int) × Int × Int,
             (x51 = ((0 : Int), (0 : Int), (0 : Int), ((0 : Int), (0 : Int), (0 : Int), (0 : Int)), (0 : Int), (0 : Int))) →
             (True) ∧
             ((x51 = oneE x0) ∧
              ((false = isE x0) ∧
               (True)))) ∧
            (((!rightE x1) = false) →
             ∀ x52 : Int × Int × Int × (Int × Int × Int × Int) × Int × Int,
             (x52 = x1) →
             (True) ∧
             ((x52 = oneE x0) ∧
              ((true = isE x0) ∧
               (True)))))))) ∧
        ((litCmp BinOp.eql (↑(List.length x0) : Int) (27 : Int) = false) →
         (True) ∧
         (True →
          (((!rightE x1) = true) →
           ∀ x53 : Int × Int × Int × (Int × Int × Int × Int) × Int × Int,
           (x53 = ((0 : Int), (0 : Int), (0 : Int), ((0 : Int), (0 : Int), (0 : Int), (0 : Int)), (0 : Int), (0 : Int))) →
           (True) ∧
           ((x53 = oneE x0) ∧
            ((false = isE x0) ∧
             (True)))) ∧
          (((!rightE x1) = false) →
           ∀ x54 : Int × Int × Int × (Int × Int × Int × Int) × Int × Int,
           (x54 = x1) →
           (True) ∧
           ((x54 = oneE x0) ∧
            ((true = isE x0) ∧
             (True))))))))) ∧
     ((litCmp BinOp.eql (↑(List.length x0) : Int) (4 : Int) = false) →
      ((litCmp BinOp.eql (↑(List.length x0) : Int) (27 : Int) = true) →
       (((0 : Int) ≤ (0 : Int)) ∧
        ((0 : Int) < (↑(List.length x0) : Int))) ∧
       (∀ x55 : Int,
        (x55 = ix x0 (0 : Int)) →
        ((litCmp BinOp.eql x55 (1 : Int) = true) →
         ((2 : Int) ≤ (↑(List.length x0) : Int)) ∧
         ((bytes (List.drop (2 : Nat) x0)) ∧
          (True →
           ∀ x56 : Int × Int × Int × Int,
           (x56 = readC (List.drop (2 : Nat) x0)) →
           ((readOK (List.drop (2 : Nat) x0) = true) →
            (((0 : Int) ≤ (1 : Int)) ∧
             ((1 : Int) < (↑(List.length x0) : Int))) ∧
            ((True) ∧
             (True →
              (((!rightE ((1 : Int), IntKind.wrap IntKind.i64 (ix x0 (1 : Int)), (0 : Int), x56, (0 : Int), (0 : Int))) = true) →
               ∀ x57 : Int × Int × Int × (Int × Int × Int × Int) × Int × Int,
               (x57 = ((0 : Int), (0 : Int), (0 : Int), ((0 : Int), (0 : Int), (0 : Int), (0 : Int)), (0 : Int), (0 : Int))) →
               (True) ∧
               ((x57 = oneE x0) ∧
                ((false = isE x0) ∧
                 (True)))) ∧
              (((!rightE ((1 : Int), IntKind.wrap IntKind.i64 (ix x0 (1 : Int)), (0 : Int), x56, (0 : Int), (0 : Int))) = false) →
               ∀ x58 : Int × Int × Int × (Int × Int × Int × Int) × Int × Int,
               (x58 = ((1 : Int), IntKind.wrap IntKind.i64 (ix x0 (1 : Int)), (0 : Int), x56, (0 : Int), (0 : Int))) →
               (True) ∧
               ((x58 = oneE x0) ∧
                ((true = isE x0) ∧
                 (True))))))) ∧
           ((readOK (List.drop (2 : Nat) x0) = false) →
            (True) ∧
            (True →
             (((!rightE x1) = true) →
              ∀ x59 : Int × Int × Int × (Int × Int × Int × Int) × Int × Int,
              (x59 = ((0 : Int), (0 : Int), (0 : Int), ((0 : Int), (0 : Int), (0 : Int), (0 : Int)), (0 : Int), (0 : Int))) →
              (True) ∧
              ((x59 = oneE x0) ∧
               ((false = isE x0) ∧
                (True)))) ∧
             (((!rightE x1) = false) →
              ∀ x60 : Int × Int × Int × (Int × Int × Int × Int) × Int × Int,
              (x60 = x1) →
              (True) ∧
              ((x60 = oneE x0) ∧
               ((true = isE x0) ∧
                (True))))))))) ∧
        ((litCmp BinOp.eql x55 (1 : Int) = false) →
         (True) ∧
         (True →
          (((!rightE x1) = true) →
           ∀ x61 : Int × Int × Int × (Int × Int × Int × Int) × Int × Int,
           (x61 = ((0 : Int), (0 : Int), (0 : Int), ((0 : Int), (0 : Int), (0 : Int), (0 : Int)), (0 : Int), (0 : Int))) →
           (True) ∧
           ((x61 = oneE x0) ∧
            ((false = isE x0) ∧
             (True)))) ∧
          (((!rightE x1) = false) →
           ∀ x62 : Int × Int × Int × (Int × Int × Int × Int) × Int × Int,
           (x62 = x1) →
           (True) ∧
           ((x62 = oneE x0) ∧
            ((true = isE x0) ∧
             (True)))))))) ∧
      ((litCmp BinOp.eql (↑(List.length x0) : Int) (27 : Int) = false) →
       (True) ∧
       (True →
        (((!rightE x1) = true) →
         ∀ x63 : Int × Int × Int × (Int × Int × Int × Int) × Int × Int,
         (x63 = ((0 : Int), (0 : Int), (0 : Int), ((0 : Int), (0 : Int), (0 : Int), (0 : Int)), (0 : Int), (0 : Int))) →
         (True) ∧
         ((x63 = oneE x0) ∧
          ((false = isE x0) ∧
           (True)))) ∧
        (((!rightE x1) = false) →
         ∀ x64 : Int × Int × Int × (Int × Int × Int × Int) × Int × Int,
         (x64 = x1) →
         (True) ∧
         ((x64 = oneE x0) ∧
          ((true = isE x0) ∧
           (True)))))))))) ∧
  ((litCmp BinOp.eql (↑(List.length x0) : Int) (3 : Int) = false) →
   ((litCmp BinOp.eql (↑(List.length x0) : Int) (4 : Int) = true) →
    (((0 : Int) ≤ (0 : Int)) ∧
     ((0 : Int) < (↑(List.length x0) : Int))) ∧
    (∀ x65 : Int,
     (x65 = ix x0 (0 : Int)) →
     ((litCmp BinOp.eql x65 (2 : Int) = true) →
      (((0 : Int) ≤ (3 : Int)) ∧
       ((3 : Int) < (↑(List.length x0) : Int))) ∧
      ((((0 : Int) ≤ (2 : Int)) ∧
        ((2 : Int) < (↑(List.length x0) : Int))) ∧
       ((((0 : Int) ≤ (1 : Int)) ∧
         ((1 : Int) < (↑(List.length x0) : Int))) ∧
        (((litCmp BinOp.eql (↑(List.length x0) : Int) (27 : Int) = true) →
          (((0 : Int) ≤ (0 : Int)) ∧
           ((0 : Int) < (↑(List.length x0) : Int))) ∧
          (∀ x66 : Int,
           (x66 = ix x0 (0 : Int)) →
           ((litCmp BinOp.eql x66 (1 : Int) = true) →
            ((2 : Int) ≤ (↑(List.length x0) : Int)) ∧
            ((bytes (List.drop (2 : Nat) x0)) ∧
             (True →
              ∀ x67 : Int × Int × Int × Int,
              (x67 = readC (List.drop (2 : Nat) x0)) →
              ((readOK (List.drop (2 : Nat) x0) = true) →
               (((0 : Int) ≤ (1 : Int)) ∧
                ((1 : Int) < (↑(List.length x0) : Int))) ∧
               ((True) ∧
                (True →
                 (((!rightE ((1 : Int), IntKind.wrap IntKind.i64 (ix x0 (1 : Int)), (0 : Int), x67, (0 : Int), (0 : Int))) = true) →
                  ∀ x68 : Int × Int × Int × (Int × Int × Int × Int) × Int × Int,
                  (x68 = ((0 : Int), (0 : Int), (0 : Int), ((0 : Int), (0 : Int), (0 : Int), (0 : Int)), (0 : Int), (0 : Int))) →
                  (True) ∧
                  ((x68 = oneE x0) ∧
                   ((false = isE x0) ∧
                    (True)))) ∧
                 (((!rightE ((1 : Int), IntKind.wrap IntKind.i64 (ix x0 (1 : Int)), (0 : Int), x67, (0 : Int), (0 : Int))) = false) →
                  ∀ x69 : Int × Int × Int × (Int × Int × Int × Int) × Int × Int,
                  (x69 = ((1 : Int), IntKind.wrap IntKind.i64 (ix x0 (1 : Int)), (0 : Int), x67, (0 : Int), (0 : Int))) →
                  (True) ∧
                  ((x69 = oneE x0) ∧
                   ((true = isE x0) ∧
                    (True))))))) ∧
              ((readOK (List.drop (2 : Nat) x0) = false) →
               (True) ∧
               (True →
                (((!rightE ((2 : Int), IntKind.wrap IntKind.i64 (ix x0 (1 : Int)), (0 : Int), ((0 : Int), (0 : Int), (0 : Int), (0 : Int)), IntKind.wrap IntKind.i64 (ix x0 (2 : Int)), IntKind.wrap IntKind.i64 (ix x0 (3 : Int)))) = true) →
                 ∀ x70 : Int × Int × Int × (Int × Int × Int × Int) × Int × Int,
                 (x70 = ((0 : Int), (0 : Int), (0 : Int), ((0 : Int), (0 : Int), (0 : Int), (0 : Int)), (0 : Int), (0 : Int))) →
                 (True) ∧
                 ((x70 = oneE x0) ∧
                  ((false = isE x0) ∧
                   (True)))) ∧
                (((!rightE ((2 : Int), IntKind.wrap IntKind.i64 (ix x0 (1 : Int)), (0 : Int), ((0 : Int), (0 : Int), (0 : Int), (0 : Int)), IntKind.wrap IntKind.i64 (ix x0 (2 : Int)), IntKind.wrap IntKind.i64 (ix x0 (3 : Int)))) = false) →
                 ∀ x71 : Int × Int × Int × (Int × Int × Int × Int) × Int × Int,
                 (x71 = ((2 : Int), IntKind.wrap IntKind.i64 (ix x0 (1 : Int)), (0 : Int), ((0 : Int), (0 : Int), (0 : Int), (0 : Int)), IntKind.wrap IntKind.i64 (ix x0 (2 : Int)), IntKind.wrap IntKind.i64 (ix x0 (3 : Int)))) →
                 (True) ∧
                 ((x71 = oneE x0) ∧
                  ((true = isE x0) ∧
                   (True))))))))) ∧
           ((litCmp BinOp.eql x66 (1 : Int) = false) →
            (True) ∧
            (True →
             (((!rightE ((2 : Int), IntKind.wrap IntKind.i64 (ix x0 (1 : Int)), (0 : Int), ((0 : Int), (0 : Int), (0 : Int), (0 : Int)), IntKind.wrap IntKind.i64 (ix x0 (2 : Int)), IntKind.wrap IntKind.i64 (ix x0 (3 : Int)))) = true) →
              ∀ x72 : Int × Int × Int × (Int × Int × Int × Int) × Int × Int,
              (x72 = ((0 : Int), (0 : Int), (0 : Int), ((0 : Int), (0 : Int), (0 : Int), (0 : Int)), (0 : Int), (0 : Int))) →
              (True) ∧
              ((x72 = oneE x0) ∧
               ((false = isE x0) ∧
                (True)))) ∧
             (((!rightE ((2 : Int), IntKind.wrap IntKind.i64 (ix x0 (1 : Int)), (0 : Int), ((0 : Int), (0 : Int), (0 : Int), (0 : Int)), IntKind.wrap IntKind.i64 (ix x0 (2 : Int)), IntKind.wrap IntKind.i64 (ix x0 (3 : Int)))) = false) →
              ∀ x73 : Int × Int × Int × (Int × Int × Int × Int) × Int × Int,
              (x73 = ((2 : Int), IntKind.wrap IntKind.i64 (ix x0 (1 : Int)), (0 : Int), ((0 : Int), (0 : Int), (0 : Int), (0 : Int)), IntKind.wrap IntKind.i64 (ix x0 (2 : Int)), IntKind.wrap IntKind.i64 (ix x0 (3 : Int)))) →
              (True) ∧
              ((x73 = oneE x0) ∧
               ((true = isE x0) ∧
                (True)))))))) ∧
         ((litCmp BinOp.eql (↑(List.length x0) : Int) (27 : Int) = false) →
          (True) ∧
          (True →
           (((!rightE ((2 : Int), IntKind.wrap IntKind.i64 (ix x0 (1 : Int)), (0 : Int), ((0 : Int), (0 : Int), (0 : Int), (0 : Int)), IntKind.wrap IntKind.i64 (ix x0 (2 : Int)), IntKind.wrap IntKind.i64 (ix x0 (3 : Int)))) = true) →
            ∀ x74 : Int × Int × Int × (Int × Int × Int × Int) × Int × Int,
            (x74 = ((0 : Int), (0 : Int), (0 : Int), ((0 : Int), (0 : Int), (0 : Int), (0 : Int)), (0 : Int), (0 : Int))) →
            (True) ∧
            ((x74 = oneE x0) ∧
             ((false = isE x0) ∧
              (True)))) ∧
           (((!rightE ((2 : Int), IntKind.wrap IntKind.i64 (ix x0 (1 : Int)), (0 : Int), ((0 : Int), (0 : Int), (0 : Int), (0 : Int)), IntKind.wrap IntKind.i64 (ix x0 (2 : Int)), IntKind.wrap IntKind.i64 (ix x0 (3 : Int)))) = false) →
            ∀ x75 : Int × Int × Int × (Int × Int × Int × Int) × Int × Int,
            (x75 = ((2 : Int), IntKind.wrap IntKind.i64 (ix x0 (1 : Int)), (0 : Int), ((0 : Int), (0 : Int), (0 : Int), (0 : Int)), IntKind.wrap IntKind.i64 (ix x0 (2 : Int)), IntKind.wrap IntKind.i64 (ix x0 (3 : Int)))) →
            (True) ∧
            ((x75 = oneE x0) ∧
             ((true = isE x0) ∧
              (True)))))))))) ∧
     ((litCmp BinOp.eql x65 (2 : Int) = false) →
      ((litCmp BinOp.eql (↑(List.length x0) : Int) (27 : Int) = true) →
       (((0 : Int) ≤ (0 : Int)) ∧
        ((0 : Int) < (↑(List.length x0) : Int))) ∧
       (∀ x76 : Int,
        (x76 = ix x0 (0 : Int)) →
        ((litCmp BinOp.eql x76 (1 : Int) = true) →
         ((2 : Int) ≤ (↑(List.length x0) : Int)) ∧
         ((bytes (List.drop (2 : Nat) x0)) ∧
          (True →
           ∀ x77 : Int × Int × Int × Int,
           (x77 = readC (List.drop (2 : Nat) x0)) →
           ((readOK (List.drop (2 : Nat) x0) = true) →
            (((0 : Int) ≤ (1 : Int)) ∧
             ((1 : Int) < (↑(List.length x0) : Int))) ∧
            ((True) ∧
             (True →
              (((!rightE ((1 : Int), IntKind.wrap IntKind.i64 (ix x0 (1 : Int)), (0 : Int), x77, (0 : Int), (0 : Int))) = true) →
               ∀ x78 : Int × Int × Int × (Int × Int × Int × Int) × Int × Int,
               (x78 = ((0 : Int), (0 : Int), (0 : Int), ((0 : Int), (0 : Int), (0 : Int), (0 : Int)), (0 : Int), (0 : Int))) →
               (True) ∧
               ((x78 = oneE x0) ∧
                ((false = isE x0) ∧
                 (True)))) ∧
              (((!rightE ((1 : Int), IntKind.wrap IntKind.i64 (ix x0 (1 : Int)), (0 : Int), x77, (0 : Int), (0 : Int))) = false) →
               ∀ x79 : Int × Int × Int × (Int × Int × Int × Int) × Int × Int,
               (x79 = ((1 : Int), IntKind.wrap IntKind.i64 (ix x0 (1 : Int)), (0 : Int), x77, (0 : Int), (0 : Int))) →
               (True) ∧
               ((x79 = oneE x0) ∧
                ((true = isE x0) ∧
                 (True))))))) ∧
           ((readOK (List.drop (2 : Nat) x0) = false) →
            (True) ∧
            (True →
             (((!rightE x1) = true) →
              ∀ x80 : Int × Int × Int × (Int × Int × Int × Int) × Int × Int,
              (x80 = ((0 : Int), (0 : Int), (0 : Int), ((0 : Int), (0 : Int), (0 : Int), (0 : Int)), (0 : Int), (0 : Int))) →
              (True) ∧
              ((x80 = oneE x0) ∧
               ((false = isE x0) ∧
                (True)))) ∧
             (((!rightE x1) = false) →
              ∀ x81 : Int × Int × Int × (Int × Int × Int × Int) × Int × Int,
              (x81 = x1) →
              (True) ∧
              ((x81 = oneE x0) ∧
               ((true = isE x0) ∧
                (True))))))))) ∧
        ((litCmp BinOp.eql x76 (1 : Int) = false) →
         (True) ∧
         (True →
          (((!rightE x1) = true) →
           ∀ x82 : Int × Int × Int × (Int × Int × Int × Int) × Int × Int,
           (x82 = ((0 : Int), (0 : Int), (0 : Int), ((0 : Int), (0 : Int), (0 : Int), (0 : Int)), (0 : Int), (0 : Int))) →
           (True) ∧
           ((x82 = oneE x0) ∧
            ((false = isE x0) ∧
             (True)))) ∧
          (((!rightE x1) = false) →
           ∀ x83 : Int × Int × Int × (Int × Int × Int × Int) × Int × Int,
           (x83 = x1) →
           (True) ∧
           ((x83 = oneE x0) ∧
            ((true = isE x0) ∧
             (True)))))))) ∧
      ((litCmp BinOp.eql (↑(List.length x0) : Int) (27 : Int) = false) →
       (True) ∧
       (True →
        (((!rightE x1) = true) →
         ∀ x84 : Int × Int × Int × (Int × Int × Int × Int) × Int × Int,
         (x84 = ((0 : Int), (0 : Int), (0 : Int), ((0 : Int), (0 : Int), (0 : Int), (0 : Int)), (0 : Int), (0 : Int))) →
         (True) ∧
         ((x84 = oneE x0) ∧
          ((false = isE x0) ∧
           (True)))) ∧
        (((!rightE x1) = false) →
         ∀ x85 : Int × Int × Int × (Int × Int × Int × Int) × Int × Int,
         (x85 = x1) →
         (True) ∧
         ((x85 = oneE x0) ∧
          ((true = isE x0) ∧
           (True))))))))) ∧
   ((litCmp BinOp.eql (↑(List.length x0) : Int) (4 : Int) = false) →
    ((litCmp BinOp.eql (↑(List.length x0) : Int) (27 : Int) = true) →
     (((0 : Int) ≤ (0 : Int)) ∧
      ((0 : Int) < (↑(List.length x0) : Int))) ∧
     (∀ x86 : Int,
      (x86 = ix x0 (0 : Int)) →
      ((litCmp BinOp.eql x86 (1 : Int) = true) →
       ((2 : Int) ≤ (↑(List.length x0) : Int)) ∧
       ((bytes (List.drop (2 : Nat) x0)) ∧
        (True →
         ∀ x87 : Int × Int × Int × Int,
         (x87 = readC (List.drop (2 : Nat) x0)) →
         ((readOK (List.drop (2 : Nat) x0) = true) →
          (((0 : Int) ≤ (1 : Int)) ∧
           ((1 : Int) < (↑(List.length x0) : Int))) ∧
          ((True) ∧
           (True →
            (((!rightE ((1 : Int), IntKind.wrap IntKind.i64 (ix x0 (1 : Int)), (0 : Int), x87, (0 : Int), (0 : Int))) = true) →
             ∀ x88 : Int × Int × Int × (Int × Int × Int × Int) × Int × Int,
             (x88 = ((0 : Int), (0 : Int), (0 : Int), ((0 : Int), (0 : Int), (0 : Int), (0 : Int)), (0 : Int), (0 : Int))) →
             (True) ∧
             ((x88 = oneE x0) ∧
              ((false = isE x0) ∧
               (True)))) ∧
            (((!rightE ((1 : Int), IntKind.wrap IntKind.i64 (ix x0 (1 : Int)), (0 : Int), x87, (0 : Int), (0 : Int))) = false) →
             ∀ x89 : Int × Int × Int × (Int × Int × Int × Int) × Int × Int,
             (x89 = ((1 : Int), IntKind.wrap IntKind.i64 (ix x0 (1 : Int)), (0 : Int), x87, (0 : Int), (0 : Int))) →
             (True) ∧
             ((x89 = oneE x0) ∧
              ((true = isE x0) ∧
               (True))))))) ∧
         ((readOK (List.drop (2 : Nat) x0) = false) →
          (True) ∧
          (True →
           (((!rightE x1) = true) →
            ∀ x90 : Int × Int × Int × (Int × Int × Int × Int) × Int × Int,
            (x90 = ((0 : Int), (0 : Int), (0 : Int), ((0 : Int), (0 : Int), (0 : Int), (0 : Int)), (0 : Int), (0 : Int))) →
            (True) ∧
            ((x90 = oneE x0) ∧
             ((false = isE x0) ∧
              (True)))) ∧
           (((!rightE x1) = false) →
            ∀ x91 : Int × Int × Int × (Int × Int × Int × Int) × Int × Int,
            (x91 = x1) →
            (True) ∧
            ((x91 = oneE x0) ∧
             ((true = isE x0) ∧
              (True))))))))) ∧
      ((litCmp BinOp.eql x86 (1 : Int) = false) →
       (True) ∧
       (True →
        (((!rightE x1) = true) →
         ∀ x92 : Int × Int × Int × (Int × Int × Int × Int) × Int × Int,
         (x92 = ((0 : Int), (0 : Int), (0 : Int), ((0 : Int), (0 : Int), (0 : Int), (0 : Int)), (0 : Int), (0 : Int))) →
         (True) ∧
         ((x92 = oneE x0) ∧
          ((false = isE x0) ∧
           (True)))) ∧
        (((!rightE x1) = false) →
         ∀ x93 : Int × Int × Int × (Int × Int × Int × Int) × Int × Int,
         (x93 = x1) →
         (True) ∧
         ((x93 = oneE x0) ∧
          ((true = isE x0) ∧
           (True)))))))) ∧
    ((litCmp BinOp.eql (↑(List.length x0) : Int) (27 : Int) = false) →
     (True) ∧
     (True →
      (((!rightE x1) = true) →
       ∀ x94 : Int × Int × Int × (Int × Int × Int × Int) × Int × Int,
       (x94 = ((0 : Int), (0 : Int), (0 : Int), ((0 : Int), (0 : Int), (0 : Int), (0 : Int)), (0 : Int), (0 : Int))) →
       (True) ∧
       ((x94 = oneE x0) ∧
        ((false = isE x0) ∧
         (True)))) ∧
      (((!rightE x1) = false) →
       ∀ x95 : Int × Int × Int × (Int × Int × Int × Int) × Int × Int,
       (x95 = x1) →
       (True) ∧
       ((x95 = oneE x0) ∧
        ((true = isE x0) ∧
         (True)))))))) := by
  intro l hl
  have e0 := wrapI _ (ix_of (i := 0) hl).1 (ix_of (i := 0) hl).2
  have e1 := wrapI _ (ix_of (i := 1) hl).1 (ix_of (i := 1) hl).2
  have e2 := wrapI _ (ix_of (i := 2) hl).1 (ix_of (i := 2) hl).2
  have e3 := wrapI _ (ix_of (i := 3) hl).1 (ix_of (i := 3) hl).2
  have b1 := ix_of (i := 1) hl
  have b2 := ix_of (i := 2) hl
  have e5 : litArith .mul .i64 256 (ix l 2) = ix l 2 * 256 := by rw [Int.mul_comm]; exact wrapI64 (x := 256 * ix l 2) (by omega) (by omega)
  have e4 : litArith .add .i64 (ix l 1) (ix l 2 * 256) = ix l 1 + ix l 2 * 256 := addI64 (by omega) (by omega)
  have leaf : ∀ c, candE l = c → ((!rightE c) = true → ((0 : Int), (0 : Int), (0 : Int), ((0 : Int), (0 : Int), (0 : Int), (0 : Int)), (0 : Int), (0 : Int)) = oneE l ∧ false = isE l) ∧ ((!rightE c) = false → c = oneE l ∧ true = isE l) := fun c hc => by
    simp only [oneE, isE, hc, Bool.not_eq_true', Bool.not_eq_false']
    refine ⟨fun h => ?_, fun h => ?_⟩ <;> simp [h, E0]
  have hd : bytes (List.drop 2 l) := fun x hx => hl x (List.mem_of_mem_drop hx)
  simp only [litCmp, beq_iff_eq, beq_eq_false_iff_ne, decide_eq_true_eq, decide_eq_false_iff_not, true_and, and_true, true_implies, forall_eq, e0, e1, e2, e3, e4, e5, hd]
  repeat' first | refine leaf _ ?_ | refine ⟨?_, ?_⟩ | intro _
  all_goals first | omega | exact cand3 (by omega) (by assumption) | exact cand4 (by omega) (by assumption) | exact cand27 (by assumption) (by simp_all) | exact candn (by assumption) (by simp_all) | exact cando (by omega) (by omega) (by omega)
set_option maxRecDepth 10000 in
theorem rone_ok : conOne.ok KK Try.prog 32 := by
  refine Con.of_vc ([]) ([]) TT_ok follows Try.func32 ?_ G23_ok (@toVC _ _ rone_vc ?_)
  · kernel_rfl
  · kernel_rfl
noncomputable def G24 : List (FuncId × Con) := (32, conOne) :: G23
theorem G24_ok : GOK KK Try.prog G24 := GOK.cons (Callable.of Try.func32 (by kernel_rfl) (by kernel_rfl)) rone_ok G23_ok

set_option maxRecDepth 10000 in
theorem rread15_vc :
  ∀ x0 : List Int,
  ((List.length x0 ≤ (100000 : Nat)) ∧
    (bytes x0)) →
  ∃ x1 : Int → List (Int × Int × Int × (Int × Int × Int × Int) × Int × Int) → Prop,
  ∃ x2 : Int → List (Int × Int × Int × (Int × Int × Int × Int) × Int × Int) → Nat,
  (x1 (0 : Int) []) ∧
  (∀ x3 : Int,
   ∀ x4 : List (Int × Int × Int × (Int × Int × Int × Int) × Int × Int),
   (x1 x3 x4) →
   ((litCmp BinOp.lss x3 (↑(List.length x0) : Int) = true) →
    ∀ x5 : Int,
    (x5 = litArith BinOp.sub IntKind.i64 (↑(List.length x0) : Int) x3) →
    (((0 : Int) ≤ x3) ∧
     (x3 < (↑(List.length x0) : Int))) ∧
    (∀ x6 : Int,
     (x6 = ix x0 x3) →
     ∀ x7 : Int,
     (x7 = IntKind.wrap IntKind.i64 x6) →
     ((litCmp BinOp.gtr x5 x7 = true) →
      (((0 : Int) ≤ x3) ∧
       (x3 < (↑(List.length x0) : Int))) ∧
      (∀ x8 : Int,
       (x8 = ix x0 x3) →
       ∀ x9 : Int,
       (x9 = IntKind.wrap IntKind.i64 x8) →
       ∀ x10 : Int,
       (x10 = litArith BinOp.add IntKind.i64 x3 (1 : Int)) →
       ∀ x11 : Int,
       (x11 = litArith BinOp.add IntKind.i64 x3 (1 : Int)) →
       ∀ x12 : Int,
       (x12 = litArith BinOp.add IntKind.i64 x11 x9) →
       ((0 : Int) ≤ x10) ∧
       ((x10 ≤ x12) ∧
        ((x12 ≤ (↑(List.length x0) : Int)) ∧
         ((bytes (List.take (Int.toNat (x12 - x10)) (List.drop (Int.toNat x10) x0))) ∧
          (True →
           ∀ x13 : Int × Int × Int × (Int × Int × Int × Int) × Int × Int,
           (x13 = oneE (List.take (Int.toNat (x12 - x10)) (List.drop (Int.toNat x10) x0))) →
           ((isE (List.take (Int.toNat (x12 - x10)) (List.drop (Int.toNat x10) x0)) = true) →
            ((litCmp BinOp.lss (↑(List.length x4) : Int) (2048 : Int) = true) →
             (((0 : Int) ≤ (↑(List.length x4) : Int) + (1 : Int)) ∧
              (((↑(List.length x4) : Int) + (1 : Int)) * (72 : Int) ≤ (140737488355328 : Int))) ∧
             (∀ x14 : List (Int × Int × Int × (Int × Int × Int × Int) × Int × Int),
              (x14 = x4 ++ [x13]) →
              ∀ x15 : Int,
              (x15 = litArith BinOp.add IntKind.i64 x3 (1 : Int)) →
              ∀ x16 : Int,
              (x16 = litArith BinOp.add IntKind.i64 x15 x9) →
              (x0 = x0) ∧
              (((↑(List.length x0) : Int) = (↑(List.length x0) : Int)) ∧
               ((x1 x16 x14) ∧
                (x2 x16 x14 < x2 x3 x4))))) ∧
            ((litCmp BinOp.lss (↑(List.length x4) : Int) (2048 : Int) = false) →
             ∀ x17 : Int,
             (x17 = litArith BinOp.add IntKind.i64 x3 (1 : Int)) →
             ∀ x18 : Int,
             (x18 = litArith BinOp.add IntKind.i64 x17 x9) →
             (x0 = x0) ∧
             (((↑(List.length x0) : Int) = (↑(List.length x0) : Int)) ∧
              ((x1 x18 x4) ∧
               (x2 x18 x4 < x2 x3 x4))))) ∧
           ((isE (List.take (Int.toNat (x12 - x10)) (List.drop (Int.toNat x10) x0)) = false) →
            ∀ x19 : Int,
            (x19 = litArith BinOp.add IntKind.i64 x3 (1 : Int)) →
            ∀ x20 : Int,
            (x20 = litArith BinOp.add IntKind.i64 x19 x9) →
            (x0 = x0) ∧
            (((↑(List.length x0) : Int) = (↑(List.length x0) : Int)) ∧
             ((x1 x20 x4) ∧
              (x2 x20 x4 < x2 x3 x4)))))))))) ∧
     ((litCmp BinOp.gtr x5 x7 = false) →
      (True) ∧
      ((x4 = rdAll x0) ∧
       (((↑(List.length x4) : Int) = (↑(List.length (rdAll x0)) : Int)) ∧
        (True)))))) ∧
   ((litCmp BinOp.lss x3 (↑(List.length x0) : Int) = false) →
    (True) ∧
    ((x4 = rdAll x0) ∧
     (((↑(List.length x4) : Int) = (↑(List.length (rdAll x0)) : Int)) ∧
      (True))))) := by
  rintro l ⟨hn, hl⟩
  refine ⟨fun k o => 0 ≤ k ∧ k ≤ l.length ∧ o.length ≤ 2048 ∧ rdAll l = (o ++ rdE (l.drop k.toNat).length (l.drop k.toNat)).take 2048, fun k _ => ((l.length : Int) - k).toNat, ⟨by omega, by omega, by simp, by simp [rdAll]⟩, ?_⟩
  rintro k o ⟨h0, h1, ho, hall⟩
  have done : rdE (l.drop k.toNat).length (l.drop k.toNat) = [] → o = rdAll l := fun h => by
    rw [hall, h, List.append_nil, List.take_of_length_le ho]
  have bx := ix_of (i := k) hl
  have w1 := wrapI _ bx.1 bx.2
  have w2 := addI64 (x := k) (y := 1) (by omega) (by omega)
  have w3 := addI64 (x := k + 1) (y := ix l k) (by omega) (by omega)
  have w4 : litArith .sub .i64 (l.length : Int) k = l.length - k := wrapI64 (by omega) (by omega)
  simp only [true_and, and_true, true_implies, forall_eq, w1, w2, w3, w4, litCmp, decide_eq_true_eq, decide_eq_false_iff_not]
  refine ⟨fun h => ⟨⟨h0, h⟩, fun hx => ?_, fun hx => ?_⟩, fun h => ?_⟩
  · have hlen : (l.drop k.toNat).length = l.length - k.toNat := by simp
    have hx0 : ix (l.drop k.toNat) 0 = ix l k := by rw [ix_drop (by omega)]; congr 1; omega
    have hstep := rdE_step (b := l.drop k.toNat) (by omega) (by rw [hx0]; exact bx.1)
    rw [hx0, if_neg (by omega), List.drop_drop, List.drop_drop, show k.toNat + 1 = (k + 1).toNat from by omega, show k.toNat + (1 + ix l k).toNat = (k + 1 + ix l k).toNat from by omega] at hstep
    rw [show k + 1 + ix l k - (k + 1) = ix l k from by omega]
    have hcut : bytes (List.take (ix l k).toNat (List.drop (k + 1).toNat l)) := fun x hx => hl x (List.mem_of_mem_drop (List.mem_of_mem_take hx))
    refine ⟨⟨h0, h⟩, by omega, by omega, by omega, hcut, fun hi => ⟨fun ho2 => ⟨⟨by omega, by omega⟩, ⟨by omega, by omega, by simp; omega, ?_⟩, by omega⟩, fun ho2 => ⟨⟨by omega, by omega, ho, ?_⟩, by omega⟩⟩, fun hi => ⟨⟨by omega, by omega, ho, ?_⟩, by omega⟩⟩
    · rw [hall, hstep, if_pos hi]; simp
    · rw [hall, List.take_append_of_le_length (by omega), List.take_append_of_le_length (by omega)]
    · rw [hall, hstep, hi]; simp
  · have hlen : (l.drop k.toNat).length = l.length - k.toNat := by simp
    have hx0 : ix (l.drop k.toNat) 0 = ix l k := by rw [ix_drop (by omega)]; congr 1; omega
    have hstep := rdE_step (b := l.drop k.toNat) (by omega) (by rw [hx0]; exact bx.1)
    rw [hx0, if_pos (by omega)] at hstep
    have := done hstep
    exact ⟨this, by rw [this]⟩
  · have := done (rdE_nil _ (by simp; omega))
    exact ⟨this, by rw [this]⟩
set_option maxRecDepth 10000 in
theorem rread15_ok : conRRead15.ok KK Try.prog 30 := by
  refine Con.of_vc ([(0, ⟨[], [(3, .is (.own 0)), (4, .d (.i .i64))], [], [0], []⟩)]) ([]) TT_ok follows Try.func30 ?_ G24_ok (@toVC _ _ rread15_vc ?_)
  · kernel_rfl
  · kernel_rfl
noncomputable def G25 : List (FuncId × Con) := (30, conRRead15) :: G24
theorem G25_ok : GOK KK Try.prog G25 := GOK.cons (Callable.of Try.func30 (by kernel_rfl) (by kernel_rfl)) rread15_ok G24_ok

set_option maxRecDepth 10000 in
theorem esame_vc :
  ∀ x0 : List (Int × Int × Int × (Int × Int × Int × Int) × Int × Int),
  ∀ x1 : List (Int × Int × Int × (Int × Int × Int × Int) × Int × Int),
  (List.length x0 ≤ (1000000 : Nat)) →
  ((litCmp BinOp.neq (↑(List.length x0) : Int) (↑(List.length x1) : Int) = true) →
   (True) ∧
   ((false = same x0 x1) ∧
    (True))) ∧
  ((litCmp BinOp.neq (↑(List.length x0) : Int) (↑(List.length x1) : Int) = false) →
   ∃ x2 : Int → Prop,
   ∃ x3 : Int → Nat,
   (x2 (0 : Int)) ∧
   (∀ x4 : Int,
    (x2 x4) →
    ((litCmp BinOp.lss x4 (↑(List.length x0) : Int) = true) →
     (((0 : Int) ≤ x4) ∧
      (x4 < (↑(List.length x1) : Int))) ∧
     ((((0 : Int) ≤ x4) ∧
       (x4 < (↑(List.length x0) : Int))) ∧
      ((((!same (ix x0 x4) (ix x1 x4)) = true) →
        (True) ∧
        ((false = same x0 x1) ∧
         (True))) ∧
       (((!same (ix x0 x4) (ix x1 x4)) = false) →
        ∀ x5 : Int,
        (x5 = litArith BinOp.add IntKind.i64 x4 (1 : Int)) →
        (x0 = x0) ∧
        (((↑(List.length x0) : Int) = (↑(List.length x0) : Int)) ∧
         ((x1 = x1) ∧
          (((↑(List.length x1) : Int) = (↑(List.length x1) : Int)) ∧
           ((x2 x5) ∧
            (x3 x5 < x3 x4))))))))) ∧
    ((litCmp BinOp.lss x4 (↑(List.length x0) : Int) = false) →
     (True) ∧
     ((true = same x0 x1) ∧
      (True))))) := by
  intro a b hbig
  have no : a ≠ b → false = same a b := fun h => by
    cases hs : same a b with
    | false => rfl
    | true => exact absurd (same_iff.1 hs) h
  simp only [true_and, and_true, true_implies, forall_eq, litCmp, decide_eq_true_eq, decide_eq_false_iff_not, bne_iff_ne, ne_eq, Bool.not_eq_true', Bool.not_eq_false']
  refine ⟨fun h => no (fun e => h (by rw [e])), fun h => ?_⟩
  have hlen : a.length = b.length := by have h' := h; simp at h'; omega
  refine ⟨fun k => 0 ≤ k ∧ k ≤ a.length ∧ a.take k.toNat = b.take k.toNat, fun k => ((a.length : Int) - k).toNat, ⟨by omega, by omega, by simp⟩, ?_⟩
  rintro k ⟨h0, h1, h2⟩
  refine ⟨fun h => ⟨⟨h0, by omega⟩, ⟨h0, h⟩, fun hs => no (fun e => ?_), fun hs => ?_⟩, fun h => ?_⟩
  · subst e; rw [same_self] at hs; cases hs
  · rw [addI64 (by omega) (by omega)]
    exact ⟨⟨by omega, by omega, by rw [take_ix h0 h, take_ix h0 (by omega), h2, same_iff.1 hs]⟩, by dsimp only; omega⟩
  · have : k = a.length := by omega
    subst this
    rw [Int.toNat_natCast, List.take_length, List.take_of_length_le (by omega)] at h2
    subst h2
    exact (same_self a).symm
set_option maxRecDepth 10000 in
theorem esame_ok : conSameE.ok KK Try.prog 29 := by
  refine Con.of_vc ([(0, ⟨[], [(5, .d (.i .i64))], [], [], []⟩)]) ([]) TT_ok follows Try.func29 ?_ G25_ok (@toVC _ _ esame_vc ?_)
  · kernel_rfl
  · kernel_rfl
noncomputable def G26 : List (FuncId × Con) := (29, conSameE) :: G25
theorem G26_ok : GOK KK Try.prog G26 := GOK.cons (Callable.of Try.func29 (by kernel_rfl) (by kernel_rfl)) esame_ok G25_ok
end Go.Proofs.Ytkhbodngiodklaa
