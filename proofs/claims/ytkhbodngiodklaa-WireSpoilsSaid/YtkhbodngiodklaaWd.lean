/- More laws of package wire. -/
import Derived.Test.YtkhbodngiodklaaWc
import Derived.Test.YtkhbodngiodklaaWp
set_option linter.all false
namespace Go.Proofs.Ytkhbodngiodklaa
open Go Go.Ex
theorem and_small {a : Int} {m : Nat} (hm : m < 9223372036854775808) : 0 ≤ litArith .and .i64 a m ∧ litArith .and .i64 a m ≤ m := by
  have h : (BitVec.ofInt 64 a &&& BitVec.ofInt 64 (m : Int)).toNat ≤ m := by
    rw [BitVec.toNat_and, BitVec.ofInt_natCast, BitVec.toNat_ofNat, Nat.mod_eq_of_lt (by omega)]
    exact Nat.and_le_right
  have e : litArith .and .i64 a m = ((BitVec.ofInt 64 a &&& BitVec.ofInt 64 (m : Int)).toNat : Int) := by
    show IntKind.wrap .i64 ((BitVec.ofInt 64 a &&& BitVec.ofInt 64 (m : Int)).toNat : Int) = _
    exact wrapI64 (by omega) (by omega)
  rw [e]
  omega
theorem rem_pos {a b : Int} (ha : 0 ≤ a) (hb : 0 < b) : 0 ≤ litArith .rem .i64 a b ∧ litArith .rem .i64 a b < b := by
  show 0 ≤ a.tmod b ∧ a.tmod b < b
  rw [Int.tmod_eq_emod_of_nonneg ha]
  exact ⟨Int.emod_nonneg _ (by omega), Int.emod_lt_of_pos _ hb⟩

set_option maxRecDepth 10000 in
theorem wcuts_vc :
  ∀ x0 : List Int,
  ∀ x1 : Int,
  (((True) ∧
     (Fits (Tp.sl (Tp.i IntKind.u8)) x0)) ∧
    (Fits (Tp.i IntKind.i64) x1)) →
  (True) ∧
  (True →
   ((litCmp BinOp.gtr (↑(List.length x0) : Int) (3000 : Int) = true) →
    (True) ∧
    (True)) ∧
   ((litCmp BinOp.gtr (↑(List.length x0) : Int) (3000 : Int) = false) →
    (bytes x0) ∧
    (True →
     ∀ x2 : Int,
     (x2 = litArith BinOp.and IntKind.i64 x1 (65535 : Int)) →
     ∀ x3 : Int,
     (x3 = litArith BinOp.add IntKind.i64 (↑(List.length x0) : Int) (1 : Int)) →
     (x3 ≠ (0 : Int)) ∧
     (∀ x4 : Int,
      (x4 = litArith BinOp.rem IntKind.i64 x2 x3) →
      ((0 : Int) ≤ x4) ∧
      ((x4 ≤ (↑(List.length x0) : Int)) ∧
       ((bytes (List.take (Int.toNat x4) x0)) ∧
        (True →
         ((litCmp BinOp.gtr (↑(List.length (rdL (List.take (Int.toNat x4) x0))) : Int) (↑(List.length (rdL x0)) : Int) = true) →
          (True) ∧
          (False)) ∧
         ((litCmp BinOp.gtr (↑(List.length (rdL (List.take (Int.toNat x4) x0))) : Int) (↑(List.length (rdL x0)) : Int) = false) →
          ((0 : Int) ≤ (↑(List.length (rdL (List.take (Int.toNat x4) x0))) : Int)) ∧
          (((↑(List.length (rdL (List.take (Int.toNat x4) x0))) : Int) ≤ (↑(List.length (rdL x0)) : Int)) ∧
           ((List.length (rdL (List.take (Int.toNat x4) x0)) ≤ (1000000 : Nat)) ∧
            (True →
             (((!same (rdL (List.take (Int.toNat x4) x0)) (List.take (Int.toNat (↑(List.length (rdL (List.take (Int.toNat x4) x0))) : Int)) (rdL x0))) = true) →
              (True) ∧
              (False)) ∧
             (((!same (rdL (List.take (Int.toNat x4) x0)) (List.take (Int.toNat (↑(List.length (rdL (List.take (Int.toNat x4) x0))) : Int)) (rdL x0))) = false) →
              (True) ∧
              (True →
               (bytes (wrL (rdL x0))) ∧
               (True →
                ((litCmp BinOp.eql (wrE (rdL x0)) (0 : Int) = true) →
                 ((litCmp BinOp.eql (rdC (wrL (rdL x0))) (0 : Int) = true) →
                  (List.length (rdL (wrL (rdL x0))) ≤ (1000000 : Nat)) ∧
                  (True →
                   ((same (rdL (wrL (rdL x0))) (rdL x0) = true) →
                    (True) ∧
                    ((litCmp BinOp.leq (↑(List.length (wrL (rdL x0))) : Int) (↑(List.length x0) : Int) = true) ∧
                     (True))) ∧
                   ((same (rdL (wrL (rdL x0))) (rdL x0) = false) →
                    (True) ∧
                    (False)))) ∧
                 ((litCmp BinOp.eql (rdC (wrL (rdL x0))) (0 : Int) = false) →
                  (True) ∧
                  (False))) ∧
                ((litCmp BinOp.eql (wrE (rdL x0)) (0 : Int) = false) →
                 (True) ∧
                 (False)))))))))))))))) := by
  rintro l cut ⟨⟨_, hl⟩, _⟩
  have hb := bytes_of hl
  refine ⟨trivial, fun _ => ⟨fun _ => ⟨trivial, trivial⟩, fun hn => ⟨hb, fun _ => ?_⟩⟩⟩
  have hn : (l.length : Int) ≤ 3000 := by simpa [gtrF] using hn
  intro c hc d hd
  have hd' : d = l.length + 1 := by rw [hd, addI64 (by omega) (by omega)]
  have hc' := and_small (a := cut) (m := 65535) (by decide)
  have hc2 : 0 ≤ c := by rw [hc]; exact hc'.1
  refine ⟨by omega, fun n hn' => ?_⟩
  have hr := rem_pos (a := c) (b := d) hc2 (by omega)
  rw [← hn'] at hr
  have hbt : bytes (l.take n.toNat) := fun x hx => hb x (List.mem_of_mem_take hx)
  have ha : rdL l = rds l := rdL_small hb (by omega)
  have hs : rdL (l.take n.toNat) = rds (l.take n.toNat) := rdL_small hbt (by simp; omega)
  have hpre := rds_prefix hb n.toNat
  have hlen := hpre.length_le
  have htk : (rds l).take (rds (l.take n.toNat)).length = rds (l.take n.toNat) := (List.prefix_iff_eq_take.1 hpre).symm
  have hsz := rds_len hb
  have hR := rds_right hb
  obtain ⟨w1, w2⟩ := wr_ok (l := rds l) (by omega) (fun e he => (hR e he).1)
  have hc1 : bytes (allE (rds l)) := allE_bytes (fun e he => (hR e he).1)
  have hc3 := rds_size hb
  have hag : rdL (allE (rds l)) = rds l := by
    rw [rdL_small hc1 (by omega)]
    have := rds_all hR []
    simpa [rds_nil] using this
  have hcc := rdC_ok (l := allE (rds l)) (by omega)
  refine ⟨by omega, by omega, hbt, fun _ => ?_⟩
  rw [ha, hs, w1, w2, hag, hcc]
  try simp only [gtrT, gtrF, lssT, lssF, leqT, leqF, geqT, geqF, eqlT, eqlF, neqT, neqF, true_and, and_true, true_implies, implies_true, Bool.not_eq_true', Bool.not_eq_false', bne_iff_ne, ne_eq, not_true_eq_false, not_false_eq_true, Int.toNat_natCast, same_self, reduceCtorEq, false_implies, List.nil_append, htk, hc1]
  repeat' first | refine ⟨?_, ?_⟩ | intro _
  all_goals first | trivial | assumption | omega | (simp_all; done) | (simp_all; omega)
set_option maxRecDepth 10000 in
theorem wcuts_ok : conWCuts.ok Try.prog 10 := by
  refine Con.of_vc ([]) ([]) TT_ok follows Try.func10 ?_ G29_ok (@toVC _ _ wcuts_vc ?_)
  · kernel_rfl
  · kernel_rfl
noncomputable def G30 : List (FuncId × Con) := (10, conWCuts) :: G29
theorem G30_ok : GOK Try.prog G30 := GOK.cons (Callable.of Try.func10 (by kernel_rfl) (by kernel_rfl)) wcuts_ok G29_ok

theorem allE_take_le (l : List En) (k : Nat) : (allE (l.take k)).length ≤ (allE l).length := by
  conv => rhs; rw [← List.take_append_drop k l]
  rw [allE_append, List.length_append]
  omega
theorem take_lt {l : List En} {k : Nat} (h : (allE (l.take k)).length < (allE l).length) : k < l.length := by
  rcases Nat.lt_or_ge k l.length with h' | h'
  · exact h'
  · rw [List.take_of_length_le h'] at h; omega
theorem take_ge {l : List En} {k : Nat} (hk : k ≤ l.length) (h : (allE l).length ≤ (allE (l.take k)).length) : k = l.length := by
  rcases Nat.lt_or_ge k l.length with h' | h'
  · have := allE_take_succ l h'
    have := allE_take_le l (k + 1)
    omega
  · omega

set_option maxRecDepth 10000 in
theorem wparts_vc :
  ∀ x0 : List (Int × Int × Int × (Int × Int × Int × Int) × Int × Int),
  ∀ x1 : List (Int × Int × Int × (Int × Int × Int × Int) × Int × Int),
  (((True) ∧
     (Fits (Tp.sl (Tp.p (Tp.i IntKind.i64) (Tp.p (Tp.i IntKind.i64) (Tp.p (Tp.i IntKind.i64) (Tp.p (Tp.p (Tp.i IntKind.i64) (Tp.p (Tp.i IntKind.u64) (Tp.p (Tp.i IntKind.u64) (Tp.i IntKind.u64)))) (Tp.p (Tp.i IntKind.i64) (Tp.i IntKind.i64))))))) x0)) ∧
    (Fits (Tp.sl (Tp.p (Tp.i IntKind.i64) (Tp.p (Tp.i IntKind.i64) (Tp.p (Tp.i IntKind.i64) (Tp.p (Tp.p (Tp.i IntKind.i64) (Tp.p (Tp.i IntKind.u64) (Tp.p (Tp.i IntKind.u64) (Tp.i IntKind.u64)))) (Tp.p (Tp.i IntKind.i64) (Tp.i IntKind.i64))))))) x1)) →
  (True) ∧
  (True →
   ((litCmp BinOp.gtr (↑(List.length x0) : Int) (60 : Int) = true) →
    (True) ∧
    (True)) ∧
   ((litCmp BinOp.gtr (↑(List.length x0) : Int) (60 : Int) = false) →
    ((litCmp BinOp.gtr (↑(List.length x1) : Int) (60 : Int) = true) →
     (True) ∧
     (True)) ∧
    ((litCmp BinOp.gtr (↑(List.length x1) : Int) (60 : Int) = false) →
     (True) ∧
     (True →
      (True) ∧
      (True →
       (((0 : Int) ≤ (↑(List.length x0) : Int)) ∧
        ((↑(List.length x0) : Int) * (72 : Int) ≤ (140737488355328 : Int))) ∧
       (∀ x2 : List (Int × Int × Int × (Int × Int × Int × Int) × Int × Int),
        (x2 = [] ++ x0) →
        (((0 : Int) ≤ (↑(List.length x0) : Int) + (↑(List.length x1) : Int)) ∧
         (((↑(List.length x0) : Int) + (↑(List.length x1) : Int)) * (72 : Int) ≤ (140737488355328 : Int))) ∧
        (∀ x3 : List (Int × Int × Int × (Int × Int × Int × Int) × Int × Int),
         (x3 = x2 ++ x1) →
         (True) ∧
         (True →
          ((litCmp BinOp.eql (wrE x0) (0 : Int) = true) →
           (((!litCmp BinOp.eql (wrE x3) (0 : Int) == litCmp BinOp.eql (wrE x1) (0 : Int)) = true) →
            (True) ∧
            (False)) ∧
           (((!litCmp BinOp.eql (wrE x3) (0 : Int) == litCmp BinOp.eql (wrE x1) (0 : Int)) = false) →
            ((litCmp BinOp.neq (wrE x3) (0 : Int) = true) →
             (True) ∧
             ((litCmp BinOp.eql (↑(List.length (wrL x3)) : Int) (0 : Int) = true) ∧
              (True))) ∧
            ((litCmp BinOp.neq (wrE x3) (0 : Int) = false) →
             (((0 : Int) ≤ (↑(List.length (wrL x0)) : Int)) ∧
              ((↑(List.length (wrL x0)) : Int) * (1 : Int) ≤ (140737488355328 : Int))) ∧
             (∀ x4 : List Int,
              (x4 = [] ++ wrL x0) →
              (((0 : Int) ≤ (↑(List.length (wrL x0)) : Int) + (↑(List.length (wrL x1)) : Int)) ∧
               (((↑(List.length (wrL x0)) : Int) + (↑(List.length (wrL x1)) : Int)) * (1 : Int) ≤ (140737488355328 : Int))) ∧
              (∀ x5 : List Int,
               (x5 = x4 ++ wrL x1) →
               (bytes x5) ∧
               (True →
                ∃ x6 : Int → Int → Prop,
                ∃ x7 : Int → Int → Nat,
                (x6 (0 : Int) (0 : Int)) ∧
                (∀ x8 : Int,
                 ∀ x9 : Int,
                 (x6 x8 x9) →
                 ((litCmp BinOp.lss x8 (↑(List.length (wrL x3)) : Int) = true) →
                  ∀ x10 : Int,
                  (x10 = litArith BinOp.add IntKind.i64 x9 (1 : Int)) →
                  (((0 : Int) ≤ x8) ∧
                   (x8 < (↑(List.length (wrL x3)) : Int))) ∧
                  (∀ x11 : Int,
                   (x11 = ix (wrL x3) x8) →
                   ∀ x12 : Int,
                   (x12 = IntKind.wrap IntKind.i64 x11) →
                   ∀ x13 : Int,
                   (x13 = litArith BinOp.add IntKind.i64 (1 : Int) x12) →
                   ∀ x14 : Int,
                   (x14 = litArith BinOp.add IntKind.i64 x8 x13) →
                   (x0 = x0) ∧
                   (((↑(List.length x0) : Int) = (↑(List.length x0) : Int)) ∧
                    ((x1 = x1) ∧
                     (((↑(List.length x1) : Int) = (↑(List.length x1) : Int)) ∧
                      ((rdC x5 = rdC x5) ∧
                       ((wrL x0 = wrL x0) ∧
                        (((↑(List.length (wrL x0)) : Int) = (↑(List.length (wrL x0)) : Int)) ∧
                         ((wrL x1 = wrL x1) ∧
                          (((↑(List.length (wrL x1)) : Int) = (↑(List.length (wrL x1)) : Int)) ∧
                           ((x3 = x3) ∧
                            (((↑(List.length x0) : Int) + (↑(List.length x1) : Int) = (↑(List.length x0) : Int) + (↑(List.length x1) : Int)) ∧
                             ((wrL x3 = wrL x3) ∧
                              (((↑(List.length (wrL x3)) : Int) = (↑(List.length (wrL x3)) : Int)) ∧
                               ((x5 = x5) ∧
                                (((↑(List.length (wrL x0)) : Int) + (↑(List.length (wrL x1)) : Int) = (↑(List.length (wrL x0)) : Int) + (↑(List.length (wrL x1)) : Int)) ∧
                                 ((rdL x5 = rdL x5) ∧
                                  (((↑(List.length (rdL x5)) : Int) = (↑(List.length (rdL x5)) : Int)) ∧
                                   ((x6 x14 x10) ∧
                                    (x7 x14 x10 < x7 x8 x9)))))))))))))))))))) ∧
                 ((litCmp BinOp.lss x8 (↑(List.length (wrL x3)) : Int) = false) →
                  (((0 : Int) ≤ (↑(List.length (wrL x0)) : Int)) ∧
                   ((↑(List.length (wrL x0)) : Int) * (1 : Int) ≤ (140737488355328 : Int))) ∧
                  (∀ x15 : List Int,
                   (x15 = [] ++ wrL x0) →
                   (((0 : Int) ≤ (↑(List.length (wrL x0)) : Int) + (↑(List.length (wrL x1)) : Int)) ∧
                    (((↑(List.length (wrL x0)) : Int) + (↑(List.length (wrL x1)) : Int)) * (1 : Int) ≤ (140737488355328 : Int))) ∧
                   (∀ x16 : List Int,
                    (x16 = x15 ++ wrL x1) →
                    (True) ∧
                    (True →
                     ((same (mkS (wrL x3)) (mkS x16) = true) →
                      ((litCmp BinOp.eql (rdC x5) (0 : Int) = true) →
                       ∀ x17 : Int,
                       (x17 = litArith BinOp.add IntKind.i64 (↑(List.length x0) : Int) (↑(List.length x1) : Int)) →
                       ((litCmp BinOp.eql (↑(List.length (rdL x5)) : Int) x17 = true) →
                        ((0 : Int) ≤ (↑(List.length x0) : Int)) ∧
                        (((↑(List.length x0) : Int) ≤ (↑(List.length (rdL x5)) : Int)) ∧
                         ((List.length (List.take (Int.toNat (↑(List.length x0) : Int)) (rdL x5)) ≤ (1000000 : Nat)) ∧
                          (True →
                           ((same (List.take (Int.toNat (↑(List.length x0) : Int)) (rdL x5)) x0 = true) →
                            ((0 : Int) ≤ (↑(List.length x0) : Int)) ∧
                            (((↑(List.length x0) : Int) ≤ (↑(List.length (rdL x5)) : Int)) ∧
                             ((List.length (List.take (Int.toNat ((↑(List.length (rdL x5)) : Int) - (↑(List.length x0) : Int))) (List.drop (Int.toNat (↑(List.length x0) : Int)) (rdL x5))) ≤ (1000000 : Nat)) ∧
                              (True →
                               ((same (List.take (Int.toNat ((↑(List.length (rdL x5)) : Int) - (↑(List.length x0) : Int))) (List.drop (Int.toNat (↑(List.length x0) : Int)) (rdL x5))) x1 = true) →
                                (True) ∧
                                ((litCmp BinOp.eql x9 (↑(List.length (rdL x5)) : Int) = true) ∧
                                 (True))) ∧
                               ((same (List.take (Int.toNat ((↑(List.length (rdL x5)) : Int) - (↑(List.length x0) : Int))) (List.drop (Int.toNat (↑(List.length x0) : Int)) (rdL x5))) x1 = false) →
                                (True) ∧
                                (False)))))) ∧
                           ((same (List.take (Int.toNat (↑(List.length x0) : Int)) (rdL x5)) x0 = false) →
                            (True) ∧
                            (False)))))) ∧
                       ((litCmp BinOp.eql (↑(List.length (rdL x5)) : Int) x17 = false) →
                        (True) ∧
                        (False))) ∧
                      ((litCmp BinOp.eql (rdC x5) (0 : Int) = false) →
                       (True) ∧
                       (False))) ∧
                     ((same (mkS (wrL x3)) (mkS x16) = false) →
                      (True) ∧
                      (False))))))))))))) ∧
          ((litCmp BinOp.eql (wrE x0) (0 : Int) = false) →
           (((!litCmp BinOp.eql (wrE x3) (0 : Int) == false) = true) →
            (True) ∧
            (False)) ∧
           (((!litCmp BinOp.eql (wrE x3) (0 : Int) == false) = false) →
            ((litCmp BinOp.neq (wrE x3) (0 : Int) = true) →
             (True) ∧
             ((litCmp BinOp.eql (↑(List.length (wrL x3)) : Int) (0 : Int) = true) ∧
              (True))) ∧
            ((litCmp BinOp.neq (wrE x3) (0 : Int) = false) →
             (((0 : Int) ≤ (↑(List.length (wrL x0)) : Int)) ∧
              ((↑(List.length (wrL x0)) : Int) * (1 : Int) ≤ (140737488355328 : Int))) ∧
             (∀ x18 : List Int,
              (x18 = [] ++ wrL x0) →
              (((0 : Int) ≤ (↑(List.length (wrL x0)) : Int) + (↑(List.length (wrL x1)) : Int)) ∧
               (((↑(List.length (wrL x0)) : Int) + (↑(List.length (wrL x1)) : Int)) * (1 : Int) ≤ (140737488355328 : Int))) ∧
              (∀ x19 : List Int,
               (x19 = x18 ++ wrL x1) →
               (bytes x19) ∧
               (True →
                ∃ x20 : Int → Int → Prop,
                ∃ x21 : Int → Int → Nat,
                (x20 (0 : Int) (0 : Int)) ∧
                (∀ x22 : Int,
                 ∀ x23 : Int,
                 (x20 x22 x23) →
                 ((litCmp BinOp.lss x22 (↑(List.length (wrL x3)) : Int) = true) →
                  ∀ x24 : Int,
                  (x24 = litArith BinOp.add IntKind.i64 x23 (1 : Int)) →
                  (((0 : Int) ≤ x22) ∧
                   (x22 < (↑(List.length (wrL x3)) : Int))) ∧
                  (∀ x25 : Int,
                   (x25 = ix (wrL x3) x22) →
                   ∀ x26 : Int,
                   (x26 = IntKind.wrap IntKind.i64 x25) →
                   ∀ x27 : Int,
                   (x27 = litArith BinOp.add IntKind.i64 (1 : Int) x26) →
                   ∀ x28 : Int,
                   (x28 = litArith BinOp.add IntKind.i64 x22 x27) →
                   (x0 = x0) ∧
                   (((↑(List.length x0) : Int) = (↑(List.length x0) : Int)) ∧
                    ((x1 = x1) ∧
                     (((↑(List.length x1) : Int) = (↑(List.length x1) : Int)) ∧
                      ((rdC x19 = rdC x19) ∧
                       ((wrL x0 = wrL x0) ∧
                        (((↑(List.length (wrL x0)) : Int) = (↑(List.length (wrL x0)) : Int)) ∧
                         ((wrL x1 = wrL x1) ∧
                          (((↑(List.length (wrL x1)) : Int) = (↑(List.length (wrL x1)) : Int)) ∧
                           ((x3 = x3) ∧
                            (((↑(List.length x0) : Int) + (↑(List.length x1) : Int) = (↑(List.length x0) : Int) + (↑(List.length x1) : Int)) ∧
                             ((wrL x3 = wrL x3) ∧
                              (((↑(List.length (wrL x3)) : Int) = (↑(List.length (wrL x3)) : Int)) ∧
                               ((x19 = x19) ∧
                                (((↑(List.length (wrL x0)) : Int) + (↑(List.length (wrL x1)) : Int) = (↑(List.length (wrL x0)) : Int) + (↑(List.length (wrL x1)) : Int)) ∧
                                 ((rdL x19 = rdL x19) ∧
                                  (((↑(List.length (rdL x19)) : Int) = (↑(List.length (rdL x19)) : Int)) ∧
                                   ((x20 x28 x24) ∧
                                    (x21 x28 x24 < x21 x22 x23)))))))))))))))))))) ∧
                 ((litCmp BinOp.lss x22 (↑(List.length (wrL x3)) : Int) = false) →
                  (((0 : Int) ≤ (↑(List.length (wrL x0)) : Int)) ∧
                   ((↑(List.length (wrL x0)) : Int) * (1 : Int) ≤ (140737488355328 : Int))) ∧
                  (∀ x29 : List Int,
                   (x29 = [] ++ wrL x0) →
                   (((0 : Int) ≤ (↑(List.length (wrL x0)) : Int) + (↑(List.length (wrL x1)) : Int)) ∧
                    (((↑(List.length (wrL x0)) : Int) + (↑(List.length (wrL x1)) : Int)) * (1 : Int) ≤ (140737488355328 : Int))) ∧
                   (∀ x30 : List Int,
                    (x30 = x29 ++ wrL x1) →
                    (True) ∧
                    (True →
                     ((same (mkS (wrL x3)) (mkS x30) = true) →
                      ((litCmp BinOp.eql (rdC x19) (0 : Int) = true) →
                       ∀ x31 : Int,
                       (x31 = litArith BinOp.add IntKind.i64 (↑(List.length x0) : Int) (↑(List.length x1) : Int)) →
                       ((litCmp BinOp.eql (↑(List.length (rdL x19)) : Int) x31 = true) →
                        ((0 : Int) ≤ (↑(List.length x0) : Int)) ∧
                        (((↑(List.length x0) : Int) ≤ (↑(List.length (rdL x19)) : Int)) ∧
                         ((List.length (List.take (Int.toNat (↑(List.length x0) : Int)) (rdL x19)) ≤ (1000000 : Nat)) ∧
                          (True →
                           ((same (List.take (Int.toNat (↑(List.length x0) : Int)) (rdL x19)) x0 = true) →
                            ((0 : Int) ≤ (↑(List.length x0) : Int)) ∧
                            (((↑(List.length x0) : Int) ≤ (↑(List.length (rdL x19)) : Int)) ∧
                             ((List.length (List.take (Int.toNat ((↑(List.length (rdL x19)) : Int) - (↑(List.length x0) : Int))) (List.drop (Int.toNat (↑(List.length x0) : Int)) (rdL x19))) ≤ (1000000 : Nat)) ∧
                              (True →
                               ((same (List.take (Int.toNat ((↑(List.length (rdL x19)) : Int) - (↑(List.length x0) : Int))) (List.drop (Int.toNat (↑(List.length x0) : Int)) (rdL x19))) x1 = true) →
                                (True) ∧
                                ((litCmp BinOp.eql x23 (↑(List.length (rdL x19)) : Int) = true) ∧
                                 (True))) ∧
                               ((same (List.take (Int.toNat ((↑(List.length (rdL x19)) : Int) - (↑(List.length x0) : Int))) (List.drop (Int.toNat (↑(List.length x0) : Int)) (rdL x19))) x1 = false) →
                                (True) ∧
                                (False)))))) ∧
                           ((same (List.take (Int.toNat (↑(List.length x0) : Int)) (rdL x19)) x0 = false) →
                            (True) ∧
                            (False)))))) ∧
                       ((litCmp BinOp.eql (↑(List.length (rdL x19)) : Int) x31 = false) →
                        (True) ∧
                        (False))) ∧
                      ((litCmp BinOp.eql (rdC x19) (0 : Int) = false) →
                       (True) ∧
                       (False))) ∧
                     ((same (mkS (wrL x3)) (mkS x30) = false) →
                      (True) ∧
                      (False))))))))))))))))))))) := by
  rintro a b ⟨⟨_, ha⟩, hb⟩
  have wa := wf_of ha
  have wb := wf_of hb
  simp only [gtrT, gtrF, lssT, lssF, leqT, leqF, geqT, geqF, eqlT, eqlF, neqT, neqF, true_and, and_true, true_implies, implies_true, Bool.not_eq_true', Bool.not_eq_false', bne_iff_ne, ne_eq, not_true_eq_false, not_false_eq_true, Int.toNat_natCast, same_self, reduceCtorEq, false_implies, List.nil_append]
  intro hla hlb
  refine ⟨⟨by omega, by omega⟩, ?_⟩
  intro x2 e2
  rw [e2]
  refine ⟨⟨by omega, by omega⟩, ?_⟩
  intro x3 e3
  rw [e3]
  have hab : (a ++ b).length = a.length + b.length := List.length_append
  rcases wr_cases (l := a) (by omega) with ⟨a1, a2, a3⟩ | ⟨a1, a2, a3⟩
  · rcases wr_cases (l := b) (by omega) with ⟨b1, b2, b3⟩ | ⟨b1, b2, b3⟩
    · have r1 : ∀ e ∈ a ++ b, rightE e = true := fun e he => (List.mem_append.1 he).elim (a3 e) (b3 e)
      have r2 : ∀ e ∈ a ++ b, rightE e = true ∧ wfE e := fun e he => ⟨r1 e he, (List.mem_append.1 he).elim (wa e) (wb e)⟩
      obtain ⟨c1, c2⟩ := wr_ok (l := a ++ b) (by omega) r1
      have lc := allE_len (a ++ b) (n := 120) (by omega)
      have e1 : allE (a ++ b) = allE a ++ allE b := allE_append a b
      have lab : (allE (a ++ b)).length = (allE a).length + (allE b).length := by rw [e1, List.length_append]
      have hby : bytes (allE (a ++ b)) := allE_bytes r1
      have hrd : rdL (allE (a ++ b)) = a ++ b := by
        rw [rdL_small hby (by omega)]
        have := rds_all r2 []
        simpa [rds_nil] using this
      have hC : rdC (allE (a ++ b)) = 0 := rdC_ok (by omega)
      simp only [a1, b1, c1, a2, b2, c2, gtrT, gtrF, lssT, lssF, leqT, leqF, geqT, geqF, eqlT, eqlF, neqT, neqF, true_and, and_true, true_implies, implies_true, Bool.not_eq_true', Bool.not_eq_false', bne_iff_ne, ne_eq, not_true_eq_false, not_false_eq_true, Int.toNat_natCast, same_self, reduceCtorEq, false_implies, List.nil_append]
      refine ⟨fun h => by simp at h, fun _ => ⟨⟨by omega, by omega⟩, ?_⟩⟩
      intro x4 e4
      rw [e4]
      refine ⟨⟨by omega, by omega⟩, ?_⟩
      intro x5 e5
      have e5' : x5 = allE (a ++ b) := by rw [e5, e1]
      rw [e5']
      refine ⟨hby, fun p n => 0 ≤ n ∧ n ≤ (a ++ b).length ∧ p = (allE ((a ++ b).take n.toNat)).length, fun p n => (((a ++ b).length : Int) - n).toNat, ⟨by omega, by omega, rfl⟩, ?_⟩
      rintro p n ⟨n0, n1, rfl⟩
      refine ⟨fun h => ?_, fun h => ?_⟩
      · have hn := take_lt (l := a ++ b) (k := n.toNat) (by omega)
        have hx := ix_allE (a ++ b) hn
        have hs := allE_take_succ (a ++ b) hn
        have hle := allE_take_le (a ++ b) (n.toNat + 1)
        rintro _ rfl
        refine ⟨⟨by omega, h⟩, ?_⟩
        rintro _ rfl _ rfl _ rfl _ rfl
        rw [hx, wrapI64 (by omega) (by omega), addI64 (x := 1) (by omega) (by omega), addI64 (x := ((allE ((a ++ b).take n.toNat)).length : Int)) (by omega) (by omega), addI64 (by omega) (by omega)]
        refine ⟨⟨by omega, by omega, ?_⟩, by dsimp only; omega⟩
        rw [show (n + 1).toNat = n.toNat + 1 from by omega, hs]
        omega
      · have hn := take_ge (l := a ++ b) (k := n.toNat) (by omega) (by omega)
        refine ⟨⟨by omega, by omega⟩, ?_⟩
        intro x6 e6
        refine ⟨⟨by omega, by omega⟩, ?_⟩
        intro x7 e7
        rw [e7, e6, ← e1, hrd, hC, addI64 (by omega) (by omega), List.take_left', show (((a ++ b).length : Int) - a.length).toNat = b.length from by omega, List.drop_left', List.take_length]
        all_goals try rfl
        try simp only [gtrT, gtrF, lssT, lssF, leqT, leqF, geqT, geqF, eqlT, eqlF, neqT, neqF, true_and, and_true, true_implies, implies_true, Bool.not_eq_true', Bool.not_eq_false', bne_iff_ne, ne_eq, not_true_eq_false, not_false_eq_true, Int.toNat_natCast, same_self, reduceCtorEq, false_implies, List.nil_append]
        repeat' first | refine ⟨?_, ?_⟩ | intro _
        all_goals first | trivial | assumption | omega | (simp_all; done) | (simp_all; omega)
    · have c3 : ¬ ∀ e ∈ a ++ b, rightE e = true := fun h => b3 fun e he => h e (by simp [he])
      obtain ⟨c1, c2⟩ := wr_no (l := a ++ b) (by omega) c3
      simp [a1, b1, c1, a2, b2, c2, litCmp]
  · have c3 : ¬ ∀ e ∈ a ++ b, rightE e = true := fun h => a3 fun e he => h e (by simp [he])
    obtain ⟨c1, c2⟩ := wr_no (l := a ++ b) (by omega) c3
    simp [a1, c1, a2, c2, litCmp]
set_option maxRecDepth 10000 in
theorem wparts_ok : conWParts.ok Try.prog 11 := by
  refine Con.of_vc ([(0, ⟨[], [(14, .d (.i .i64)), (13, .d (.i .i64))], [], []⟩)]) ([]) TT_ok follows Try.func11 ?_ G30_ok (@toVC _ _ wparts_vc ?_)
  · kernel_rfl
  · kernel_rfl
noncomputable def G31 : List (FuncId × Con) := (11, conWParts) :: G30
theorem G31_ok : GOK Try.prog G31 := GOK.cons (Callable.of Try.func11 (by kernel_rfl) (by kernel_rfl)) wparts_ok G30_ok

set_option maxRecDepth 10000 in
theorem wspoils_vc :
  ∀ x0 : List (Int × Int × Int × (Int × Int × Int × Int) × Int × Int),
  ∀ x1 : Int,
  ∀ x2 : Int,
  ((((True) ∧
      (Fits (Tp.sl (Tp.p (Tp.i IntKind.i64) (Tp.p (Tp.i IntKind.i64) (Tp.p (Tp.i IntKind.i64) (Tp.p (Tp.p (Tp.i IntKind.i64) (Tp.p (Tp.i IntKind.u64) (Tp.p (Tp.i IntKind.u64) (Tp.i IntKind.u64)))) (Tp.p (Tp.i IntKind.i64) (Tp.i IntKind.i64))))))) x0)) ∧
     (Fits (Tp.i IntKind.i64) x1)) ∧
    (Fits (Tp.i IntKind.u8) x2)) →
  (True) ∧
  (True →
   ((litCmp BinOp.gtr (↑(List.length x0) : Int) (60 : Int) = true) →
    (True) ∧
    (True)) ∧
   ((litCmp BinOp.gtr (↑(List.length x0) : Int) (60 : Int) = false) →
    ((litCmp BinOp.eql (↑(List.length x0) : Int) (0 : Int) = true) →
     (True) ∧
     (True)) ∧
    ((litCmp BinOp.eql (↑(List.length x0) : Int) (0 : Int) = false) →
     (True) ∧
     (True →
      ((litCmp BinOp.neq (wrE x0) (0 : Int) = true) →
       (True) ∧
       ((litCmp BinOp.eql (↑(List.length (wrL x0)) : Int) (0 : Int) = true) ∧
        (True))) ∧
      ((litCmp BinOp.neq (wrE x0) (0 : Int) = false) →
       ∀ x3 : Int,
       (x3 = litArith BinOp.and IntKind.i64 x1 (4095 : Int)) →
       ((↑(List.length (wrL x0)) : Int) ≠ (0 : Int)) ∧
       (∀ x4 : Int,
        (x4 = litArith BinOp.rem IntKind.i64 x3 (↑(List.length (wrL x0)) : Int)) →
        ∃ x5 : Int → Int → Prop,
        ∃ x6 : Int → Int → Nat,
        (x5 (0 : Int) (0 : Int)) ∧
        (∀ x7 : Int,
         ∀ x8 : Int,
         (x5 x7 x8) →
         ∀ x9 : Int,
         (x9 = litArith BinOp.add IntKind.i64 x7 (1 : Int)) →
         (((0 : Int) ≤ x7) ∧
          (x7 < (↑(List.length (wrL x0)) : Int))) ∧
         (∀ x10 : Int,
          (x10 = ix (wrL x0) x7) →
          ∀ x11 : Int,
          (x11 = IntKind.wrap IntKind.i64 x10) →
          ∀ x12 : Int,
          (x12 = litArith BinOp.add IntKind.i64 x9 x11) →
          ((litCmp BinOp.leq x12 x4 = true) →
           (((0 : Int) ≤ x7) ∧
            (x7 < (↑(List.length (wrL x0)) : Int))) ∧
           (∀ x13 : Int,
            (x13 = ix (wrL x0) x7) →
            ∀ x14 : Int,
            (x14 = IntKind.wrap IntKind.i64 x13) →
            ∀ x15 : Int,
            (x15 = litArith BinOp.add IntKind.i64 (1 : Int) x14) →
            ∀ x16 : Int,
            (x16 = litArith BinOp.add IntKind.i64 x7 x15) →
            ∀ x17 : Int,
            (x17 = litArith BinOp.add IntKind.i64 x8 (1 : Int)) →
            (x0 = x0) ∧
            (((↑(List.length x0) : Int) = (↑(List.length x0) : Int)) ∧
             ((x4 = x4) ∧
              ((x2 = x2) ∧
               ((wrL x0 = wrL x0) ∧
                (((↑(List.length (wrL x0)) : Int) = (↑(List.length (wrL x0)) : Int)) ∧
                 ((x5 x16 x17) ∧
                  (x6 x16 x17 < x6 x7 x8))))))))) ∧
          ((litCmp BinOp.leq x12 x4 = false) →
           (((0 : Int) ≤ (↑(List.length (wrL x0)) : Int)) ∧
            ((↑(List.length (wrL x0)) : Int) * (1 : Int) ≤ (140737488355328 : Int))) ∧
           (∀ x18 : List Int,
            (x18 = [] ++ wrL x0) →
            (((0 : Int) ≤ x4) ∧
             (x4 < (↑(List.length (wrL x0)) : Int))) ∧
            (∀ x19 : List Int,
             (x19 = List.set x18 (Int.toNat x4) x2) →
             (bytes x19) ∧
             (True →
              ((litCmp BinOp.neq (rdC x19) (0 : Int) = true) →
               (True) ∧
               (False)) ∧
              ((litCmp BinOp.neq (rdC x19) (0 : Int) = false) →
               ((litCmp BinOp.lss (↑(List.length (rdL x19)) : Int) x8 = true) →
                (True) ∧
                (False)) ∧
               ((litCmp BinOp.lss (↑(List.length (rdL x19)) : Int) x8 = false) →
                ((0 : Int) ≤ x8) ∧
                ((x8 ≤ (↑(List.length x0) : Int)) ∧
                 (((0 : Int) ≤ x8) ∧
                  ((x8 ≤ (↑(List.length (rdL x19)) : Int)) ∧
                   ((List.length (List.take (Int.toNat x8) (rdL x19)) ≤ (1000000 : Nat)) ∧
                    (True →
                     (((!same (List.take (Int.toNat x8) (rdL x19)) (List.take (Int.toNat x8) x0)) = true) →
                      (True) ∧
                      (False)) ∧
                     (((!same (List.take (Int.toNat x8) (rdL x19)) (List.take (Int.toNat x8) x0)) = false) →
                      ((litCmp BinOp.eql x4 x7 = true) →
                       (True) ∧
                       (True)) ∧
                      ((litCmp BinOp.eql x4 x7 = false) →
                       ∀ x20 : Int,
                       (x20 = litArith BinOp.add IntKind.i64 x7 (1 : Int)) →
                       ∀ x21 : Int,
                       (x21 = litArith BinOp.add IntKind.i64 x7 (1 : Int)) →
                       (((0 : Int) ≤ x7) ∧
                        (x7 < (↑(List.length (wrL x0)) : Int))) ∧
                       (∀ x22 : Int,
                        (x22 = ix x19 x7) →
                        ∀ x23 : Int,
                        (x23 = IntKind.wrap IntKind.i64 x22) →
                        ∀ x24 : Int,
                        (x24 = litArith BinOp.add IntKind.i64 x21 x23) →
                        ((0 : Int) ≤ x20) ∧
                        ((x20 ≤ x24) ∧
                         ((x24 ≤ (↑(List.length (wrL x0)) : Int)) ∧
                          ((bytes (List.take (Int.toNat (x24 - x20)) (List.drop (Int.toNat x20) x19))) ∧
                           (True →
                            ∀ x25 : Int × Int × Int × (Int × Int × Int × Int) × Int × Int,
                            (x25 = oneE (List.take (Int.toNat (x24 - x20)) (List.drop (Int.toNat x20) x19))) →
                            (((0 : Int) ≤ x8) ∧
                             (x8 * (72 : Int) ≤ (140737488355328 : Int))) ∧
                            (((0 : Int) ≤ x8) ∧
                             ((x8 ≤ (↑(List.length x0) : Int)) ∧
                              (∀ x26 : List (Int × Int × Int × (Int × Int × Int × Int) × Int × Int),
                               (x26 = [] ++ List.take (Int.toNat x8) x0) →
                               ((isE (List.take (Int.toNat (x24 - x20)) (List.drop (Int.toNat x20) x19)) = true) →
                                (((0 : Int) ≤ x8 + (1 : Int)) ∧
                                 ((x8 + (1 : Int)) * (72 : Int) ≤ (140737488355328 : Int))) ∧
                                (∀ x27 : List (Int × Int × Int × (Int × Int × Int × Int) × Int × Int),
                                 (x27 = x26 ++ [x25]) →
                                 ∀ x28 : Int,
                                 (x28 = litArith BinOp.add IntKind.i64 x8 (1 : Int)) →
                                 (((0 : Int) ≤ x8 + (1 : Int) + ((↑(List.length x0) : Int) - x28)) ∧
                                  ((x8 + (1 : Int) + ((↑(List.length x0) : Int) - x28)) * (72 : Int) ≤ (140737488355328 : Int))) ∧
                                 (((0 : Int) ≤ x28) ∧
                                  ((x28 ≤ (↑(List.length x0) : Int)) ∧
                                   (∀ x29 : List (Int × Int × Int × (Int × Int × Int × Int) × Int × Int),
                                    (x29 = x27 ++ List.drop (Int.toNat x28) x0) →
                                    (List.length (rdL x19) ≤ (1000000 : Nat)) ∧
                                    (True →
                                     (True) ∧
                                     ((same (rdL x19) x29 = true) ∧
                                      (True)))))))) ∧
                               ((isE (List.take (Int.toNat (x24 - x20)) (List.drop (Int.toNat x20) x19)) = false) →
                                ∀ x30 : Int,
                                (x30 = litArith BinOp.add IntKind.i64 x8 (1 : Int)) →
                                (((0 : Int) ≤ x8 + ((↑(List.length x0) : Int) - x30)) ∧
                                 ((x8 + ((↑(List.length x0) : Int) - x30)) * (72 : Int) ≤ (140737488355328 : Int))) ∧
                                (((0 : Int) ≤ x30) ∧
                                 ((x30 ≤ (↑(List.length x0) : Int)) ∧
                                  (∀ x31 : List (Int × Int × Int × (Int × Int × Int × Int) × Int × Int),
                                   (x31 = x26 ++ List.drop (Int.toNat x30) x0) →
                                   (List.length (rdL x19) ≤ (1000000 : Nat)) ∧
                                   (True →
                                    (True) ∧
                                    ((same (rdL x19) x31 = true) ∧
                                     (True)))))))))))))))))))))))))))))))))))) := by
  rintro l at' x ⟨⟨⟨_, hl⟩, _⟩, hx⟩
  have hw := wf_of hl
  have hx := byte_of hx.out
  simp only [gtrT, gtrF, lssT, lssF, leqT, leqF, geqT, geqF, eqlT, eqlF, neqT, neqF, true_and, and_true, true_implies, implies_true, Bool.not_eq_true', Bool.not_eq_false', bne_iff_ne, ne_eq, not_true_eq_false, not_false_eq_true, Int.toNat_natCast, same_self, reduceCtorEq, false_implies, List.nil_append]
  intro hn hn0
  rcases wr_cases (l := l) (by omega) with ⟨a1, a2, a3⟩ | ⟨a1, a2, a3⟩
  case inr => simp [a1, a2]
  simp only [a1, a2, gtrT, gtrF, lssT, lssF, leqT, leqF, geqT, geqF, eqlT, eqlF, neqT, neqF, true_and, and_true, true_implies, implies_true, Bool.not_eq_true', Bool.not_eq_false', bne_iff_ne, ne_eq, not_true_eq_false, not_false_eq_true, Int.toNat_natCast, same_self, reduceCtorEq, false_implies, List.nil_append]
  have r2 : ∀ e ∈ l, rightE e = true ∧ wfE e := fun e he => ⟨a3 e he, hw e he⟩
  have lc := allE_len l (n := 60) (by omega)
  have hby : bytes (allE l) := allE_bytes a3
  have hlen0 := allE_ge l
  rintro m hm
  have hm0 := and_small (a := at') (m := 4095) (by decide)
  have hm1 : m = litArith .and .i64 at' (4095 : Nat) := hm
  rw [← hm1] at hm0
  refine ⟨by omega, ?_⟩
  rintro q hq
  have hq0 := rem_pos (a := m) (b := (allE l).length) (by omega) (by omega)
  rw [← hq] at hq0
  clear hm hm1 hq
  refine ⟨fun p n => 0 ≤ n ∧ n ≤ l.length ∧ p = (allE (l.take n.toNat)).length ∧ p ≤ q, fun p n => ((l.length : Int) - n).toNat, ⟨by omega, by omega, rfl, by omega⟩, ?_⟩
  rintro p n ⟨n0, n1, rfl, hpq⟩
  obtain ⟨k, rfl⟩ : ∃ k : Nat, n = k := ⟨n.toNat, by omega⟩
  simp only [Int.toNat_natCast] at n1 hpq ⊢
  have hk := take_lt (l := l) (k := k) (by omega)
  have hix := ix_allE l hk
  have hs := allE_take_succ l hk
  have hle := allE_take_le l (k + 1)
  rintro _ rfl
  refine ⟨⟨by omega, by omega⟩, ?_⟩
  rintro _ rfl _ rfl _ rfl
  rw [hix, wrapI64 (by omega) (by omega), addI64 (x := ((allE (l.take k)).length : Int)) (y := 1) (by omega) (by omega), addI64 (by omega) (by omega)]
  refine ⟨fun h => ⟨⟨by omega, by omega⟩, ?_⟩, fun h => ⟨⟨by omega, by omega⟩, ?_⟩⟩
  · rintro _ rfl _ rfl _ rfl _ rfl _ rfl
    rw [wrapI64 (by omega) (by omega), addI64 (x := 1) (by omega) (by omega), addI64 (x := ((allE (l.take k)).length : Int)) (by omega) (by omega), addI64 (by omega) (by omega)]
    refine ⟨⟨by omega, by omega, ?_, by omega⟩, by omega⟩
    rw [show ((k : Int) + 1).toNat = k + 1 from by omega, hs]
    omega
  · intro x18 e18
    rw [e18]
    refine ⟨⟨by omega, by omega⟩, ?_⟩
    intro c hc
    have hcl : c.length = (allE l).length := by rw [hc, List.length_set]
    have hcb : bytes c := by rw [hc]; exact bytes_set hby hx
    have hcR := rdL_small hcb (by omega)
    have hC : rdC c = 0 := rdC_ok (by omega)
    have hsp := allE_split l hk
    have hdr : ∀ e ∈ l.take k, rightE e = true ∧ wfE e := fun e he => r2 e (List.mem_of_mem_take he)
    have hdr2 : ∀ e ∈ l.drop (k + 1), rightE e = true ∧ wfE e := fun e he => r2 e (List.mem_of_mem_drop he)
    have htk : (l.take k).length = k := by simp; omega
    -- what is read of the turned bytes
    obtain ⟨j, hj⟩ : ∃ j : Nat, q.toNat = (allE (l.take k)).length + j := ⟨q.toNat - (allE (l.take k)).length, by omega⟩
    have hcs : c = allE (l.take k) ++ ((((bsE l[k]).length : Int) :: (bsE l[k] ++ allE (l.drop (k + 1)))).set j x) := by
      rw [hc, hsp, hj, List.set_append_right _ _ (by omega)]
      congr 2
      omega
    have hpre : rds c = l.take k ++ rds ((((bsE l[k]).length : Int) :: (bsE l[k] ++ allE (l.drop (k + 1)))).set j x) := by
      rw [hcs]; exact rds_all hdr _
    have hlk : k ≤ (rds c).length := by rw [hpre, List.length_append, htk]; omega
    have htake : (rds c).take k = l.take k := by rw [hpre, List.take_left' htk]
    have hsmall := rds_len hcb
    rw [hcR, hC]
    simp only [gtrT, gtrF, lssT, lssF, leqT, leqF, geqT, geqF, eqlT, eqlF, neqT, neqF, true_and, and_true, true_implies, implies_true, Bool.not_eq_true', Bool.not_eq_false', bne_iff_ne, ne_eq, not_true_eq_false, not_false_eq_true, Int.toNat_natCast, same_self, reduceCtorEq, false_implies, List.nil_append, htake]
    refine ⟨hcb, fun h => absurd h (by omega), fun _ => ⟨by omega, by omega, by omega, by omega, by simp; omega, fun hne => ?_⟩⟩
    obtain ⟨i, rfl⟩ : ∃ i, j = i + 1 := ⟨j - 1, by omega⟩
    have hit : i < (bsE l[k]).length := by omega
    generalize ht' : (bsE l[k]).set i x = t' at *
    have htl : (bsE l[k]).length = t'.length := by rw [← ht', List.length_set]
    have hcs' : c = allE (l.take k) ++ ((t'.length : Int) :: (t' ++ allE (l.drop (k + 1)))) := by
      rw [hcs, List.set_cons_succ, List.set_append_left _ _ hit, ht', htl]
    have hrest : rds (allE (l.drop (k + 1))) = l.drop (k + 1) := by
      have := rds_all hdr2 []
      simpa [rds_nil] using this
    have hfin : rds c = l.take k ++ ((if isE t' then [oneE t'] else []) ++ l.drop (k + 1)) := by
      rw [hcs', rds_all hdr, rds_cons, hrest]
    have hxc : ix c ((allE (l.take k)).length : Int) = t'.length := by
      rw [hcs']
      unfold ix
      rw [List.getD_eq_getElem?_getD, List.getElem?_append_right (by simp)]
      simp
    have hcut : List.take t'.length (List.drop ((allE (l.take k)).length + 1) c) = t' := by
      rw [hcs', ← List.drop_drop, List.drop_left' rfl, List.drop_succ_cons, List.drop_zero, List.take_left' rfl]
    rintro _ rfl _ rfl
    refine ⟨⟨by omega, by omega⟩, ?_⟩
    rintro _ rfl _ rfl _ rfl
    rw [hxc, wrapI64 (by omega) (by omega), addI64 (by omega) (by omega)]
    rw [show (((allE (l.take k)).length : Int) + 1 + t'.length - (((allE (l.take k)).length : Int) + 1)).toNat = t'.length from by omega, show (((allE (l.take k)).length : Int) + 1).toNat = (allE (l.take k)).length + 1 from by omega, hcut]
    refine ⟨by omega, by omega, by omega, ?_, ?_⟩
    · intro y hy
      rw [← ht'] at hy
      exact bytes_set (bsE_bytes (a3 _ (List.getElem_mem hk))) hx y hy
    · intro x25 e25
      rw [e25]
      refine ⟨⟨by omega, by omega⟩, by omega, by omega, ?_⟩
      intro x26 e26
      rw [e26]
      have hk1 : litArith .add .i64 (k : Int) 1 = ((k + 1 : Nat) : Int) := by rw [addI64 (by omega) (by omega)]; omega
      refine ⟨fun hi => ⟨⟨by omega, by omega⟩, ?_⟩, fun hi => ?_⟩
      · intro x27 e27 x28 e28
        rw [hk1] at e28
        rw [e28]
        refine ⟨⟨by omega, by omega⟩, by omega, by omega, ?_⟩
        intro x29 e29
        refine ⟨by omega, ?_⟩
        rw [e29, e27, hfin, hi, if_pos rfl, Int.toNat_natCast, List.append_assoc]
        exact same_self _
      · intro x28 e28
        rw [hk1] at e28
        rw [e28]
        refine ⟨⟨by omega, by omega⟩, by omega, by omega, ?_⟩
        intro x29 e29
        refine ⟨by omega, ?_⟩
        rw [e29, hfin, hi, if_neg (by simp), Int.toNat_natCast, List.nil_append]
        exact same_self _
set_option maxRecDepth 10000 in
theorem wspoils_ok : conWSpoils.ok Try.prog 12 := by
  refine Con.of_vc ([(0, ⟨[], [(10, .d (.i .i64)), (9, .d (.i .i64))], [], []⟩)]) ([]) TT_ok follows Try.func12 ?_ G31_ok (@toVC _ _ wspoils_vc ?_)
  · kernel_rfl
  · kernel_rfl
noncomputable def G32 : List (FuncId × Con) := (12, conWSpoils) :: G31
theorem G32_ok : GOK Try.prog G32 := GOK.cons (Callable.of Try.func12 (by kernel_rfl) (by kernel_rfl)) wspoils_ok G31_ok
end Go.Proofs.Ytkhbodngiodklaa
