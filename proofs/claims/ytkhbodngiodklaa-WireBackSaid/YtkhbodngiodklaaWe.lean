/- The laws of package wire. -/
import Derived.Test.YtkhbodngiodklaaWl
import Derived.Test.YtkhbodngiodklaaWp
set_option linter.all false
namespace Go.Proofs.Ytkhbodngiodklaa
open Go Go.Fx

set_option maxRecDepth 10000 in
theorem alive15_vc :
  True →
  (True) ∧
  (True →
   (((0 : Int) ≤ (9 : Int)) ∧
    ((9 : Int) ≤ (140737488355328 : Int))) ∧
   (∀ x0 : List Int,
    (x0 = [] ++ wrL [((0 : Int), (0 : Int), (5 : Int), ((0 : Int), (0 : Int), (0 : Int), (0 : Int)), (0 : Int), (0 : Int)), ((2 : Int), (1 : Int), (0 : Int), ((0 : Int), (0 : Int), (0 : Int), (0 : Int)), (2 : Int), (3 : Int))]) →
    (((0 : Int) ≤ (11 : Int)) ∧
     ((11 : Int) ≤ (140737488355328 : Int))) ∧
    (∀ x1 : List Int,
     (x1 = x0 ++ [(9 : Int), (9 : Int)]) →
     (bytes x1) ∧
     (True →
      ((litCmp BinOp.eql (0 : Int) (0 : Int) = true) →
       ((litCmp BinOp.eql (rdC x1) (0 : Int) = true) →
        (True) ∧
        (True →
         ((same (mkS (wrL [((0 : Int), (0 : Int), (5 : Int), ((0 : Int), (0 : Int), (0 : Int), (0 : Int)), (0 : Int), (0 : Int)), ((2 : Int), (1 : Int), (0 : Int), ((0 : Int), (0 : Int), (0 : Int), (0 : Int)), (2 : Int), (3 : Int))])) (mkS [(3 : Int), (0 : Int), (5 : Int), (0 : Int), (4 : Int), (2 : Int), (1 : Int), (2 : Int), (3 : Int)]) = true) →
          (List.length (rdL x1) ≤ (1000000 : Nat)) ∧
          (True →
           ((same (rdL x1) [((0 : Int), (0 : Int), (5 : Int), ((0 : Int), (0 : Int), (0 : Int), (0 : Int)), (0 : Int), (0 : Int)), ((2 : Int), (1 : Int), (0 : Int), ((0 : Int), (0 : Int), (0 : Int), (0 : Int)), (2 : Int), (3 : Int))] = true) →
            (True) ∧
            (True →
             (True) ∧
             (((!rightE ((0 : Int), (0 : Int), (0 : Int), ((0 : Int), (0 : Int), (0 : Int), (0 : Int)), (0 : Int), (0 : Int))) = true) ∧
              (True)))) ∧
           ((same (rdL x1) [((0 : Int), (0 : Int), (5 : Int), ((0 : Int), (0 : Int), (0 : Int), (0 : Int)), (0 : Int), (0 : Int)), ((2 : Int), (1 : Int), (0 : Int), ((0 : Int), (0 : Int), (0 : Int), (0 : Int)), (2 : Int), (3 : Int))] = false) →
            (True) ∧
            (False)))) ∧
         ((same (mkS (wrL [((0 : Int), (0 : Int), (5 : Int), ((0 : Int), (0 : Int), (0 : Int), (0 : Int)), (0 : Int), (0 : Int)), ((2 : Int), (1 : Int), (0 : Int), ((0 : Int), (0 : Int), (0 : Int), (0 : Int)), (2 : Int), (3 : Int))])) (mkS [(3 : Int), (0 : Int), (5 : Int), (0 : Int), (4 : Int), (2 : Int), (1 : Int), (2 : Int), (3 : Int)]) = false) →
          (True) ∧
          (False)))) ∧
       ((litCmp BinOp.eql (rdC x1) (0 : Int) = false) →
        (True) ∧
        (False))) ∧
      ((litCmp BinOp.eql (0 : Int) (0 : Int) = false) →
       (True) ∧
       (False)))))) := by
  have hw : wrL [((0 : Int), (0 : Int), (5 : Int), ((0 : Int), (0 : Int), (0 : Int), (0 : Int)), (0 : Int), (0 : Int)), ((2 : Int), (1 : Int), (0 : Int), ((0 : Int), (0 : Int), (0 : Int), (0 : Int)), (2 : Int), (3 : Int))] = [3, 0, 5, 0, 4, 2, 1, 2, 3] := by decide
  have hr : rdL [3, 0, 5, 0, 4, 2, 1, 2, 3, 9, 9] = [((0 : Int), (0 : Int), (5 : Int), ((0 : Int), (0 : Int), (0 : Int), (0 : Int)), (0 : Int), (0 : Int)), ((2 : Int), (1 : Int), (0 : Int), ((0 : Int), (0 : Int), (0 : Int), (0 : Int)), (2 : Int), (3 : Int))] := by rfl
  have hc : rdC [3, 0, 5, 0, 4, 2, 1, 2, 3, 9, 9] = 0 := by decide
  have hb : bytes [3, 0, 5, 0, 4, 2, 1, 2, 3, 9, 9] := by intro x hx; simp at hx; omega
  have hn : rightE ((0 : Int), (0 : Int), (0 : Int), ((0 : Int), (0 : Int), (0 : Int), (0 : Int)), (0 : Int), (0 : Int)) = false := by decide
  intro _
  simp only [true_and, and_true, true_implies, forall_eq, hw, List.nil_append, List.cons_append, hb, hc, hr, same_self, hn]
  simp [litCmp]
set_option maxRecDepth 10000 in
theorem alive15_ok : conAlive.ok KK Try.prog 27 := by
  refine Con.of_vc ([]) ([]) TT_ok follows Try.func27 ?_ G26_ok (@toVC _ _ alive15_vc ?_)
  · kernel_rfl
  · kernel_rfl
noncomputable def G27 : List (FuncId × Con) := (27, conAlive) :: G26
theorem G27_ok : GOK KK Try.prog G27 := GOK.cons (Callable.of Try.func27 (by kernel_rfl) (by kernel_rfl)) alive15_ok G26_ok

/-- What the bytes so far are read as, whatever comes behind. -/
def Reads (out : List Int) (want : List En) : Prop := ∀ rest, rds (out ++ rest) = want ++ rds rest
theorem Reads.nil : Reads [] [] := fun _ => rfl
theorem Reads.entry {out : List Int} {want : List En} {x : En} (h : Reads out want) (hr : rightE x = true) (hw : wfE x) : Reads (out ++ allE [x]) (want ++ [x]) := fun rest => by
  rw [List.append_assoc, h, rds_all (l := [x]) (fun e he => by simp at he; subst he; exact ⟨hr, hw⟩), List.append_assoc]
theorem Reads.junk {out : List Int} {want : List En} {t : List Int} (h : Reads out want) (ht : isE t = false) : Reads (out ++ [(t.length : Int)] ++ t) want := fun rest => by
  have : out ++ [(t.length : Int)] ++ t ++ rest = out ++ ((t.length : Int) :: (t ++ rest)) := by simp
  rw [this, h, rds_cons, ht]
  simp
set_option maxRecDepth 10000 in
theorem wback_vc :
  ∀ x0 : List (Int × Int × Int × (Int × Int × Int × Int) × Int × Int),
  ∀ x1 : List (List Int),
  (((True) ∧
     (Fits (Tp.sl (Tp.p (Tp.i IntKind.i64) (Tp.p (Tp.i IntKind.i64) (Tp.p (Tp.i IntKind.i64) (Tp.p (Tp.p (Tp.i IntKind.i64) (Tp.p (Tp.i IntKind.u64) (Tp.p (Tp.i IntKind.u64) (Tp.i IntKind.u64)))) (Tp.p (Tp.i IntKind.i64) (Tp.i IntKind.i64))))))) x0)) ∧
    (Fits (Tp.sl (Tp.sl (Tp.i IntKind.u8))) x1)) →
  (True) ∧
  (True →
   ((litCmp BinOp.gtr (↑(List.length x0) : Int) (60 : Int) = true) →
    (True) ∧
    (True)) ∧
   ((litCmp BinOp.gtr (↑(List.length x0) : Int) (60 : Int) = false) →
    ((litCmp BinOp.lss (↑(List.length x1) : Int) (↑(List.length x0) : Int) = true) →
     (True) ∧
     (True)) ∧
    ((litCmp BinOp.lss (↑(List.length x1) : Int) (↑(List.length x0) : Int) = false) →
     ∃ x2 : Int → List Int → List (Int × Int × Int × (Int × Int × Int × Int) × Int × Int) → Prop,
     ∃ x3 : Int → List Int → List (Int × Int × Int × (Int × Int × Int × Int) × Int × Int) → Nat,
     (x2 (0 : Int) [] []) ∧
     (∀ x4 : Int,
      ∀ x5 : List Int,
      ∀ x6 : List (Int × Int × Int × (Int × Int × Int × Int) × Int × Int),
      (x2 x4 x5 x6) →
      ((litCmp BinOp.lss x4 (↑(List.length x0) : Int) = true) →
       (((0 : Int) ≤ x4) ∧
        (x4 < (↑(List.length x0) : Int))) ∧
       (∀ x7 : Int × Int × Int × (Int × Int × Int × Int) × Int × Int,
        (x7 = ix x0 x4) →
        ∀ x8 : Int × Int × Int × (Int × Int × Int × Int) × Int × Int,
        (x8 = x7) →
        (True) ∧
        (True →
         ((litCmp BinOp.neq (wrE [x8]) (0 : Int) = true) →
          ∀ x9 : Int,
          (x9 = litArith BinOp.add IntKind.i64 x4 (1 : Int)) →
          (x1 = x1) ∧
          (((↑(List.length x1) : Int) = (↑(List.length x1) : Int)) ∧
           ((x0 = x0) ∧
            (((↑(List.length x0) : Int) = (↑(List.length x0) : Int)) ∧
             (((↑(List.length x0) : Int) = (↑(List.length x0) : Int)) ∧
              ((x2 x9 x5 x6) ∧
               (x3 x9 x5 x6 < x3 x4 x5 x6))))))) ∧
         ((litCmp BinOp.neq (wrE [x8]) (0 : Int) = false) →
          (((0 : Int) ≤ (↑(List.length x5) : Int) + (↑(List.length (wrL [x8])) : Int)) ∧
           (((↑(List.length x5) : Int) + (↑(List.length (wrL [x8])) : Int)) * (1 : Int) ≤ (140737488355328 : Int))) ∧
          (∀ x10 : List Int,
           (x10 = x5 ++ wrL [x8]) →
           (((0 : Int) ≤ (↑(List.length x6) : Int) + (1 : Int)) ∧
            (((↑(List.length x6) : Int) + (1 : Int)) * (72 : Int) ≤ (140737488355328 : Int))) ∧
           (∀ x11 : List (Int × Int × Int × (Int × Int × Int × Int) × Int × Int),
            (x11 = x6 ++ [x8]) →
            (((0 : Int) ≤ x4) ∧
             (x4 < (↑(List.length x1) : Int))) ∧
            ((bytes (ix x1 x4)) ∧
             (True →
              ∀ x12 : Int × Int × Int × (Int × Int × Int × Int) × Int × Int,
              (x12 = oneE (ix x1 x4)) →
              (((!isE (ix x1 x4)) = true) →
               (((0 : Int) ≤ x4) ∧
                (x4 < (↑(List.length x1) : Int))) ∧
               (((litCmp BinOp.lss (↑(List.length (ix x1 x4)) : Int) (256 : Int) = true) →
                 (((0 : Int) ≤ (↑(List.length x5) : Int) + (↑(List.length (wrL [x8])) : Int) + (1 : Int) + (↑(List.length (ix x1 x4)) : Int)) ∧
                  (((↑(List.length x5) : Int) + (↑(List.length (wrL [x8])) : Int) + (1 : Int) + (↑(List.length (ix x1 x4)) : Int)) * (1 : Int) ≤ (140737488355328 : Int))) ∧
                 ((((0 : Int) ≤ (↑(List.length x5) : Int) + (↑(List.length (wrL [x8])) : Int) + (1 : Int)) ∧
                   (((↑(List.length x5) : Int) + (↑(List.length (wrL [x8])) : Int) + (1 : Int)) * (1 : Int) ≤ (140737488355328 : Int))) ∧
                  ((((0 : Int) ≤ x4) ∧
                    (x4 < (↑(List.length x1) : Int))) ∧
                   ((((0 : Int) ≤ x4) ∧
                     (x4 < (↑(List.length x1) : Int))) ∧
                    (∀ x13 : Int,
                     (x13 = litArith BinOp.add IntKind.i64 x4 (1 : Int)) →
                     (x1 = x1) ∧
                     (((↑(List.length x1) : Int) = (↑(List.length x1) : Int)) ∧
                      ((x0 = x0) ∧
                       (((↑(List.length x0) : Int) = (↑(List.length x0) : Int)) ∧
                        (((↑(List.length x0) : Int) = (↑(List.length x0) : Int)) ∧
                         ((x2 x13 (x10 ++ [IntKind.wrap IntKind.u8 (↑(List.length (ix x1 x4)) : Int)] ++ ix x1 x4) x11) ∧
                          (x3 x13 (x10 ++ [IntKind.wrap IntKind.u8 (↑(List.length (ix x1 x4)) : Int)] ++ ix x1 x4) x11 < x3 x4 x5 x6))))))))))) ∧
                ((litCmp BinOp.lss (↑(List.length (ix x1 x4)) : Int) (256 : Int) = false) →
                 ∀ x14 : Int,
                 (x14 = litArith BinOp.add IntKind.i64 x4 (1 : Int)) →
                 (x1 = x1) ∧
                 (((↑(List.length x1) : Int) = (↑(List.length x1) : Int)) ∧
                  ((x0 = x0) ∧
                   (((↑(List.length x0) : Int) = (↑(List.length x0) : Int)) ∧
                    (((↑(List.length x0) : Int) = (↑(List.length x0) : Int)) ∧
                     ((x2 x14 x10 x11) ∧
                      (x3 x14 x10 x11 < x3 x4 x5 x6))))))))) ∧
              (((!isE (ix x1 x4)) = false) →
               ∀ x15 : Int,
               (x15 = litArith BinOp.add IntKind.i64 x4 (1 : Int)) →
               (x1 = x1) ∧
               (((↑(List.length x1) : Int) = (↑(List.length x1) : Int)) ∧
                ((x0 = x0) ∧
                 (((↑(List.length x0) : Int) = (↑(List.length x0) : Int)) ∧
                  (((↑(List.length x0) : Int) = (↑(List.length x0) : Int)) ∧
                   ((x2 x15 x10 x11) ∧
                    (x3 x15 x10 x11 < x3 x4 x5 x6))))))))))))))) ∧
      ((litCmp BinOp.lss x4 (↑(List.length x0) : Int) = false) →
       (bytes x5) ∧
       (True →
        ((litCmp BinOp.eql (rdC x5) (0 : Int) = true) →
         (List.length (rdL x5) ≤ (1000000 : Nat)) ∧
         (True →
          (True) ∧
          ((same (rdL x5) x6 = true) ∧
           (True)))) ∧
        ((litCmp BinOp.eql (rdC x5) (0 : Int) = false) →
         (True) ∧
         (False)))))))) := by
  rintro l js ⟨⟨_, hl⟩, hj⟩
  have hw := wf_of hl
  have hjb : ∀ j ∈ js, bytes j := fun j hm x hx => byte_of ((hj.out.2 j hm).2 x hx)
  simp only [gtrT, gtrF, lssT, lssF, leqT, leqF, geqT, geqF, eqlT, eqlF, neqT, neqF, true_and, and_true, true_implies, implies_true, Bool.not_eq_true', Bool.not_eq_false', bne_iff_ne, ne_eq, not_true_eq_false, not_false_eq_true, Int.toNat_natCast, same_self, reduceCtorEq, false_implies, List.nil_append]
  intro hn hnj
  refine ⟨fun i out want => 0 ≤ i ∧ i ≤ l.length ∧ bytes out ∧ Reads out want ∧ (out.length : Int) ≤ 300 * i ∧ (want.length : Int) ≤ i, fun i _ _ => ((l.length : Int) - i).toNat, ⟨Int.le_refl 0, by omega, (fun x hx => by cases hx), Reads.nil, by simp, by simp⟩, ?_⟩
  rintro i out want ⟨i0, i1, hb, hR, hol, hwl⟩
  refine ⟨fun hi => ⟨⟨i0, hi⟩, ?_⟩, fun hi => ⟨hb, ?_⟩⟩
  · rintro x rfl y rfl
    have hwx := hw _ (ix_mem i0 hi)
    have hjx := hjb _ (ix_mem (l := js) i0 (by omega))
    have hadd : litArith .add .i64 i 1 = i + 1 := addI64 (by omega) (by omega)
    generalize ix l i = x at *
    generalize ix js i = t at *
    rcases wr_cases (l := [x]) (by simp) with ⟨a1, a2, a3⟩ | ⟨a1, a2, a3⟩
    · have hr : rightE x = true := a3 x (by simp)
      have hlen : (allE [x]).length ≤ 28 := by
        have := bsE_len x
        rw [allE_cons, allE_nil]; simp; omega
      have hab : bytes (allE [x]) := allE_bytes a3
      have hR1 := hR.entry hr hwx
      simp only [a1, a2, gtrT, gtrF, lssT, lssF, leqT, leqF, geqT, geqF, eqlT, eqlF, neqT, neqF, true_and, and_true, true_implies, implies_true, Bool.not_eq_true', Bool.not_eq_false', bne_iff_ne, ne_eq, not_true_eq_false, not_false_eq_true, Int.toNat_natCast, same_self, reduceCtorEq, false_implies, List.nil_append, hjx, hadd, forall_eq]
      refine ⟨by omega, by omega, by omega, ?_⟩
      refine ⟨fun ht => ⟨by omega, fun h256 => ⟨by omega, by omega, by omega, by omega, ?_⟩, fun _ => ?_⟩, fun _ => ?_⟩
      · have hwr : IntKind.wrap .u8 (t.length : Int) = t.length := by rw [wrap8]; omega
        rw [hwr]
        refine ⟨⟨by omega, by omega, bytes_append (bytes_append (bytes_append hb hab) (fun x hx => by simp at hx; omega)) hjx, hR1.junk ht, ?_, ?_⟩, by omega⟩
        · simp only [List.length_append, List.length_singleton]; omega
        · simp only [List.length_append, List.length_singleton]; omega
      · refine ⟨⟨by omega, by omega, bytes_append hb hab, hR1, ?_, ?_⟩, by omega⟩
        · simp only [List.length_append]; omega
        · simp only [List.length_append, List.length_singleton]; omega
      · refine ⟨⟨by omega, by omega, bytes_append hb hab, hR1, ?_, ?_⟩, by omega⟩
        · simp only [List.length_append]; omega
        · simp only [List.length_append, List.length_singleton]; omega
    · simp only [a1, a2, gtrT, gtrF, lssT, lssF, leqT, leqF, geqT, geqF, eqlT, eqlF, neqT, neqF, true_and, and_true, true_implies, implies_true, Bool.not_eq_true', Bool.not_eq_false', bne_iff_ne, ne_eq, not_true_eq_false, not_false_eq_true, Int.toNat_natCast, same_self, reduceCtorEq, false_implies, List.nil_append, hadd, forall_eq]
      simp
      refine ⟨⟨by omega, by omega, hb, hR, by omega, by omega⟩, by omega⟩
  · have h1 : rds out = want := by
      have := hR []
      simpa [rds_nil] using this
    have h2 : rdL out = want := by rw [rdL_rds (by omega), h1, List.take_of_length_le (by omega)]
    rw [h2, rdC_ok (by omega)]
    simp only [gtrT, gtrF, lssT, lssF, leqT, leqF, geqT, geqF, eqlT, eqlF, neqT, neqF, true_and, and_true, true_implies, implies_true, Bool.not_eq_true', Bool.not_eq_false', bne_iff_ne, ne_eq, not_true_eq_false, not_false_eq_true, Int.toNat_natCast, same_self, reduceCtorEq, false_implies, List.nil_append]
    omega
set_option maxRecDepth 10000 in
theorem wback_ok : conWBack.ok KK Try.prog 9 := by
  refine Con.of_vc ([(0, ⟨[], [(31, .d (.i .i64)), (5, .is (.own 0)), (6, .is (.own 1))], [], [0, 1], []⟩)]) ([]) TT_ok follows Try.func9 ?_ G27_ok (@toVC _ _ wback_vc ?_)
  · kernel_rfl
  · kernel_rfl
noncomputable def G28 : List (FuncId × Con) := (9, conWBack) :: G27
theorem G28_ok : GOK KK Try.prog G28 := GOK.cons (Callable.of Try.func9 (by kernel_rfl) (by kernel_rfl)) wback_ok G27_ok
end Go.Proofs.Ytkhbodngiodklaa
