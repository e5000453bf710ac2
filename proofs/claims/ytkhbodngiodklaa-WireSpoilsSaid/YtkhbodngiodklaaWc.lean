/- The laws of package wire. -/
import Derived.Test.YtkhbodngiodklaaWl
set_option linter.all false
namespace Go.Proofs.Ytkhbodngiodklaa
open Go Go.Ex

set_option maxRecDepth 10000 in
theorem alive15_vc :
  True →
  (True) ∧
  (True →
   (((0 : Int) ≤ (9 : Int)) ∧
    ((9 : Int) ≤ (140737488355328 : Int))) ∧
   (∀ x0 : List Int,
    (x0 = [] ++ wrL [((0 : Int), (0 : Int), (5 : Int), ((0 : Int), (0 : Int), (0 : Int), (0 : Int)), (0 : Int), (0 : Int)), ((2 : Int), (1 : Int), (0 : Int), ((0 : Int), (0 : Int), (0 : Int), (0 : Int)), (2 : Int), (3 : Int))]) →
    (((0 : Int) ≤ (11 : Int)) ∧
     ((11 : Int) ≤ (140737488355328 : Int))) ∧
    (∀ x1 : List Int,
     (x1 = x0 ++ [(9 : Int), (9 : Int)]) →
     (bytes x1) ∧
     (True →
      ((litCmp BinOp.eql (0 : Int) (0 : Int) = true) →
       ((litCmp BinOp.eql (rdC x1) (0 : Int) = true) →
        (True) ∧
        (True →
         ((same (mkS (wrL [((0 : Int), (0 : Int), (5 : Int), ((0 : Int), (0 : Int), (0 : Int), (0 : Int)), (0 : Int), (0 : Int)), ((2 : Int), (1 : Int), (0 : Int), ((0 : Int), (0 : Int), (0 : Int), (0 : Int)), (2 : Int), (3 : Int))])) (mkS [(3 : Int), (0 : Int), (5 : Int), (0 : Int), (4 : Int), (2 : Int), (1 : Int), (2 : Int), (3 : Int)]) = true) →
          (List.length (rdL x1) ≤ (1000000 : Nat)) ∧
          (True →
           ((same (rdL x1) [((0 : Int), (0 : Int), (5 : Int), ((0 : Int), (0 : Int), (0 : Int), (0 : Int)), (0 : Int), (0 : Int)), ((2 : Int), (1 : Int), (0 : Int), ((0 : Int), (0 : Int), (0 : Int), (0 : Int)), (2 : Int), (3 : Int))] = true) →
            (True) ∧
            (True →
             (True) ∧
             (((!rightE ((0 : Int), (0 : Int), (0 : Int), ((0 : Int), (0 : Int), (0 : Int), (0 : Int)), (0 : Int), (0 : Int))) = true) ∧
              (True)))) ∧
           ((same (rdL x1) [((0 : Int), (0 : Int), (5 : Int), ((0 : Int), (0 : Int), (0 : Int), (0 : Int)), (0 : Int), (0 : Int)), ((2 : Int), (1 : Int), (0 : Int), ((0 : Int), (0 : Int), (0 : Int), (0 : Int)), (2 : Int), (3 : Int))] = false) →
            (True) ∧
            (False)))) ∧
         ((same (mkS (wrL [((0 : Int), (0 : Int), (5 : Int), ((0 : Int), (0 : Int), (0 : Int), (0 : Int)), (0 : Int), (0 : Int)), ((2 : Int), (1 : Int), (0 : Int), ((0 : Int), (0 : Int), (0 : Int), (0 : Int)), (2 : Int), (3 : Int))])) (mkS [(3 : Int), (0 : Int), (5 : Int), (0 : Int), (4 : Int), (2 : Int), (1 : Int), (2 : Int), (3 : Int)]) = false) →
          (True) ∧
          (False)))) ∧
       ((litCmp BinOp.eql (rdC x1) (0 : Int) = false) →
        (True) ∧
        (False))) ∧
      ((litCmp BinOp.eql (0 : Int) (0 : Int) = false) →
       (True) ∧
       (False)))))) := by
  have hw : wrL [((0 : Int), (0 : Int), (5 : Int), ((0 : Int), (0 : Int), (0 : Int), (0 : Int)), (0 : Int), (0 : Int)), ((2 : Int), (1 : Int), (0 : Int), ((0 : Int), (0 : Int), (0 : Int), (0 : Int)), (2 : Int), (3 : Int))] = [3, 0, 5, 0, 4, 2, 1, 2, 3] := by decide
  have hr : rdL [3, 0, 5, 0, 4, 2, 1, 2, 3, 9, 9] = [((0 : Int), (0 : Int), (5 : Int), ((0 : Int), (0 : Int), (0 : Int), (0 : Int)), (0 : Int), (0 : Int)), ((2 : Int), (1 : Int), (0 : Int), ((0 : Int), (0 : Int), (0 : Int), (0 : Int)), (2 : Int), (3 : Int))] := by rfl
  have hc : rdC [3, 0, 5, 0, 4, 2, 1, 2, 3, 9, 9] = 0 := by decide
  have hb : bytes [3, 0, 5, 0, 4, 2, 1, 2, 3, 9, 9] := by intro x hx; simp at hx; omega
  have hn : rightE ((0 : Int), (0 : Int), (0 : Int), ((0 : Int), (0 : Int), (0 : Int), (0 : Int)), (0 : Int), (0 : Int)) = false := by decide
  intro _
  simp only [true_and, and_true, true_implies, forall_eq, hw, List.nil_append, List.cons_append, hb, hc, hr, same_self, hn]
  simp [litCmp]
set_option maxRecDepth 10000 in
theorem alive15_ok : conAlive.ok Try.prog 27 := by
  refine Con.of_vc ([]) ([]) TT_ok follows Try.func27 ?_ G26_ok (@toVC _ _ alive15_vc ?_)
  · kernel_rfl
  · kernel_rfl
noncomputable def G27 : List (FuncId × Con) := (27, conAlive) :: G26
theorem G27_ok : GOK Try.prog G27 := GOK.cons (Callable.of Try.func27 (by kernel_rfl) (by kernel_rfl)) alive15_ok G26_ok

set_option maxRecDepth 10000 in
theorem wreads_vc :
  ∀ x0 : List Int,
  ((True) ∧
    (Fits (Tp.sl (Tp.i IntKind.u8)) x0)) →
  (True) ∧
  (True →
   (bytes x0) ∧
   (True →
    ((litCmp BinOp.gtr (↑(List.length x0) : Int) (65536 : Int) = true) →
     ((litCmp BinOp.eql (rdC x0) (12 : Int) = true) →
      (True) ∧
      ((litCmp BinOp.eql (↑(List.length (rdL x0)) : Int) (0 : Int) = true) ∧
       (True))) ∧
     ((litCmp BinOp.eql (rdC x0) (12 : Int) = false) →
      (True) ∧
      (False))) ∧
    ((litCmp BinOp.gtr (↑(List.length x0) : Int) (65536 : Int) = false) →
     ((litCmp BinOp.gtr (↑(List.length x0) : Int) (3000 : Int) = true) →
      (True) ∧
      (True)) ∧
     ((litCmp BinOp.gtr (↑(List.length x0) : Int) (3000 : Int) = false) →
      ((litCmp BinOp.neq (rdC x0) (0 : Int) = true) →
       (True) ∧
       (False)) ∧
      ((litCmp BinOp.neq (rdC x0) (0 : Int) = false) →
       ((List.length x0 ≤ (100000 : Nat)) ∧
        (bytes x0)) ∧
       (True →
        (List.length (rdL x0) ≤ (1000000 : Nat)) ∧
        (True →
         (((!same (rdL x0) (rdAll x0)) = true) →
          (True) ∧
          (False)) ∧
         (((!same (rdL x0) (rdAll x0)) = false) →
          (bytes x0) ∧
          (True →
           ∀ x1 : Int × Int × Int × (Int × Int × Int × Int) × Int × Int,
           (x1 = oneE x0) →
           (bytes x0) ∧
           (True →
            ∀ x2 : Int × Int × Int × (Int × Int × Int × Int) × Int × Int,
            (x2 = oneE x0) →
            ((same x1 x2 = true) →
             (True) ∧
             (((isE x0 == isE x0) = true) ∧
              (True))) ∧
            ((same x1 x2 = false) →
             (True) ∧
             (False)))))))))))) := by
  rintro l ⟨_, hl⟩
  have hl := bytes_of hl
  have h0 : ∀ {n : Int}, litCmp .gtr n 65536 = true → 65536 < n := fun h => by simpa [litCmp] using h
  have h1 : ∀ {n : Int}, litCmp .gtr n 65536 = false → n ≤ 65536 := fun h => by simpa [litCmp] using h
  have h2 : ∀ {n : Int}, litCmp .gtr n 3000 = false → n ≤ 3000 := fun h => by simpa [litCmp] using h
  simp only [true_and, and_true, true_implies, forall_eq, hl, same_self, beq_self_eq_true]
  refine ⟨fun h => ?_, fun h => ⟨fun _ => trivial, fun h' => ?_⟩⟩
  · have : ¬ l.length ≤ 65536 := by have := h0 h; omega
    simp [rdC, rdL, this, litCmp]
  · have q1 : l.length ≤ 65536 := by have := h1 h; omega
    have q2 := h2 h'
    have hC : rdC l = 0 := by simp [rdC, q1]
    have hL : rdL l = rdAll l := by simp [rdL, q1]
    have hlen : (rdAll l).length ≤ 1000000 := by simp [rdAll]; omega
    rw [hC, hL]
    simp [litCmp, same_self, hlen]
    omega
set_option maxRecDepth 10000 in
theorem wreads_ok : conWReads.ok Try.prog 7 := by
  refine Con.of_vc ([]) ([]) TT_ok follows Try.func7 ?_ G27_ok (@toVC _ _ wreads_vc ?_)
  · kernel_rfl
  · kernel_rfl
noncomputable def G28 : List (FuncId × Con) := (7, conWReads) :: G27
theorem G28_ok : GOK Try.prog G28 := GOK.cons (Callable.of Try.func7 (by kernel_rfl) (by kernel_rfl)) wreads_ok G27_ok

set_option maxRecDepth 10000 in
theorem wwrites_vc :
  ∀ x0 : List (Int × Int × Int × (Int × Int × Int × Int) × Int × Int),
  ((True) ∧
    (Fits (Tp.sl (Tp.p (Tp.i IntKind.i64) (Tp.p (Tp.i IntKind.i64) (Tp.p (Tp.i IntKind.i64) (Tp.p (Tp.p (Tp.i IntKind.i64) (Tp.p (Tp.i IntKind.u64) (Tp.p (Tp.i IntKind.u64) (Tp.i IntKind.u64)))) (Tp.p (Tp.i IntKind.i64) (Tp.i IntKind.i64))))))) x0)) →
  (True) ∧
  (True →
   ((litCmp BinOp.gtr (↑(List.length x0) : Int) (100 : Int) = true) →
    (True) ∧
    (True)) ∧
   ((litCmp BinOp.gtr (↑(List.length x0) : Int) (100 : Int) = false) →
    (True) ∧
    (True →
     ∃ x1 : Int → Prop,
     ∃ x2 : Int → Nat,
     (x1 (0 : Int)) ∧
     (∀ x3 : Int,
      (x1 x3) →
      ((litCmp BinOp.lss x3 (↑(List.length x0) : Int) = true) →
       (((0 : Int) ≤ x3) ∧
        (x3 < (↑(List.length x0) : Int))) ∧
       (∀ x4 : Int × Int × Int × (Int × Int × Int × Int) × Int × Int,
        (x4 = ix x0 x3) →
        ∀ x5 : Int × Int × Int × (Int × Int × Int × Int) × Int × Int,
        (x5 = x4) →
        (True) ∧
        (True →
         (True) ∧
         (True →
          (((!rightE x5 == rightE x5) = true) →
           (True) ∧
           (False)) ∧
          (((!rightE x5 == rightE x5) = false) →
           (True) ∧
           (True →
            (((!rightE x5) = true) →
             ((litCmp BinOp.eql (wrE x0) (11 : Int) = true) →
              (True) ∧
              ((litCmp BinOp.eql (↑(List.length (wrL x0)) : Int) (0 : Int) = true) ∧
               (True))) ∧
             ((litCmp BinOp.eql (wrE x0) (11 : Int) = false) →
              (True) ∧
              (False))) ∧
            (((!rightE x5) = false) →
             ∀ x6 : Int,
             (x6 = litArith BinOp.add IntKind.i64 x3 (1 : Int)) →
             (x0 = x0) ∧
             (((↑(List.length x0) : Int) = (↑(List.length x0) : Int)) ∧
              ((wrE x0 = wrE x0) ∧
               ((x0 = x0) ∧
                (((↑(List.length x0) : Int) = (↑(List.length x0) : Int)) ∧
                 (((↑(List.length x0) : Int) = (↑(List.length x0) : Int)) ∧
                  ((wrL x0 = wrL x0) ∧
                   (((↑(List.length (wrL x0)) : Int) = (↑(List.length (wrL x0)) : Int)) ∧
                    ((x1 x6) ∧
                     (x2 x6 < x2 x3)))))))))))))))) ∧
      ((litCmp BinOp.lss x3 (↑(List.length x0) : Int) = false) →
       ((litCmp BinOp.eql (wrE x0) (0 : Int) = true) →
        ((List.length x0 ≤ (200000 : Nat)) ∧
         (∀ x7 : En,
          (List.Mem x7 x0) →
          (rightE x7 = true) ∧
          (wfE x7))) ∧
        (True →
         (True) ∧
         (True →
          (True) ∧
          ((same (mkS (wrL x0)) (mkS (allE x0)) = true) ∧
           (True))))) ∧
       ((litCmp BinOp.eql (wrE x0) (0 : Int) = false) →
        (True) ∧
        (False))))))) := by
  rintro l ⟨_, hl⟩
  have hl := wf_of hl
  have h0 : ∀ {n : Int}, litCmp .gtr n 100 = false → n ≤ 100 := fun h => by simpa [litCmp] using h
  have h1 : ∀ {a b : Int}, litCmp .lss a b = true → a < b := fun h => by simpa [litCmp] using h
  have h2 : ∀ {a b : Int}, litCmp .lss a b = false → b ≤ a := fun h => by simpa [litCmp] using h
  simp only [true_and, and_true, true_implies, forall_eq]
  refine ⟨fun _ => trivial, fun hlen => ?_⟩
  have hn := h0 hlen
  have wr : ∀ b : Bool, l.all rightE = b → wrE l = (if b then 0 else 11) ∧ wrL l = (if b then allE l else []) := fun b hb => by
    have : ¬ 2048 < l.length := by omega
    have h3 : l.length ≤ 2048 := by omega
    simp [wrE, wrL, wrOK, hb, h3, this]
  refine ⟨fun k => 0 ≤ k ∧ k ≤ l.length ∧ (l.take k.toNat).all rightE = true, fun k => ((l.length : Int) - k).toNat, ⟨by omega, by omega, by simp⟩, ?_⟩
  rintro k ⟨k0, k1, k2⟩
  refine ⟨fun h => ?_, fun h => ?_⟩
  · have hk := h1 h
    refine ⟨⟨k0, hk⟩, fun e => ?_, fun e => ⟨fun hr => ?_, fun hr => ?_⟩⟩
    · cases hq : rightE (ix l k) <;> rw [hq] at e <;> cases e
    · have : l.all rightE = false := by
        rw [List.all_eq_false]
        exact ⟨_, ix_mem k0 hk, by simpa using hr⟩
      obtain ⟨w1, w2⟩ := wr _ this
      rw [w1, w2]
      simp [litCmp]
    · have hr' : rightE (ix l k) = true := by simpa using hr
      rw [addI64 (by omega) (by omega)]
      exact ⟨⟨by omega, by omega, by rw [take_ix k0 hk, List.all_append, k2]; simp [hr']⟩, by dsimp only; omega⟩
  · have hk : k = l.length := by have := h2 h; omega
    subst hk
    have e : l.take (l.length : Int).toNat = l := by simp
    rw [e] at k2
    obtain ⟨w1, w2⟩ := wr _ k2
    rw [w1, w2]
    refine ⟨fun _ => ⟨⟨by omega, fun x hx => ⟨List.all_eq_true.1 k2 x hx, hl x hx⟩⟩, ?_⟩, fun h => ?_⟩
    · simp [same_self]
    · simp [litCmp] at h
set_option maxRecDepth 10000 in
theorem wwrites_ok : conWWrites.ok Try.prog 8 := by
  refine Con.of_vc ([(0, ⟨[], [(19, .d (.i .i64))], [], []⟩)]) ([]) TT_ok follows Try.func8 ?_ G28_ok (@toVC _ _ wwrites_vc ?_)
  · kernel_rfl
  · kernel_rfl
noncomputable def G29 : List (FuncId × Con) := (8, conWWrites) :: G28
theorem G29_ok : GOK Try.prog G29 := GOK.cons (Callable.of Try.func8 (by kernel_rfl) (by kernel_rfl)) wwrites_ok G28_ok
end Go.Proofs.Ytkhbodngiodklaa
