/- What the other functions of package nightjarref14 do; the document's example. -/
import Derived.Test.YtkhbodngiodklaaCb
set_option linter.all false
namespace Go.Proofs.Ytkhbodngiodklaa
open Go Go.Dx

theorem wrapU {x : Int} (h0 : 0 ≤ x) (h1 : x < 18446744073709551616) : IntKind.wrap .u64 x = x := by
  show (if (false && decide (x % 18446744073709551616 ≥ (2 ^ 63 : Int))) = true then x % 18446744073709551616 - 18446744073709551616 else x % 18446744073709551616) = x
  rw [Bool.false_and, if_neg (by simp)]; omega
theorem wrapI64 {x : Int} (h0 : -9223372036854775808 ≤ x) (h1 : x < 9223372036854775808) : IntKind.wrap .i64 x = x := by
  show (if (true && decide (x % 18446744073709551616 ≥ 9223372036854775808)) = true then x % 18446744073709551616 - 18446744073709551616 else x % 18446744073709551616) = x
  simp only [Bool.true_and, decide_eq_true_eq]
  split <;> omega
theorem addI64 {x y : Int} (h0 : -9223372036854775808 ≤ x + y) (h1 : x + y < 9223372036854775808) : litArith .add .i64 x y = x + y := wrapI64 h0 h1
theorem quo256 {x : Int} (h0 : 0 ≤ x) (h1 : x < 18446744073709551616) : litArith .quo .u64 x 256 = x / 256 := by
  show IntKind.wrap .u64 (x.tdiv 256) = x / 256
  rw [Int.tdiv_eq_ediv_of_nonneg h0, wrapU (by omega) (by omega)]
theorem rem256 {x : Int} (h0 : 0 ≤ x) : IntKind.wrap .u8 (litArith .rem .u64 x 256) = x % 256 := by
  show IntKind.wrap .u8 (x.tmod 256) = x % 256
  rw [Int.tmod_eq_emod_of_nonneg h0]
  show (if (false && decide (x % 256 % 256 ≥ (2 ^ 7 : Int))) = true then x % 256 % 256 - 256 else x % 256 % 256) = x % 256
  rw [Bool.false_and, if_neg (by simp)]; omega
theorem addU {x y : Int} (h0 : 0 ≤ x + y) (h1 : x + y < 18446744073709551616) : litArith .add .u64 x y = x + y := wrapU h0 h1
theorem mulU {x : Int} (h0 : 0 ≤ x) (h1 : x * 256 < 18446744073709551616) : litArith .mul .u64 x 256 = x * 256 := wrapU (by omega) h1


set_option maxRecDepth 10000 in
theorem put_vc :
  ∀ x0 : Int,
  (((0 : Int) ≤ x0) ∧
    (x0 < (18446744073709551616 : Int))) →
  (True) ∧
  ((∀ x1 : Nat,
    x1 < (8 : Nat) →
    List.getD [IntKind.wrap IntKind.u8 (litArith BinOp.rem IntKind.u64 x0 (256 : Int)), IntKind.wrap IntKind.u8 (litArith BinOp.rem IntKind.u64 (litArith BinOp.quo IntKind.u64 x0 (256 : Int)) (256 : Int)), IntKind.wrap IntKind.u8 (litArith BinOp.rem IntKind.u64 (litArith BinOp.quo IntKind.u64 (litArith BinOp.quo IntKind.u64 x0 (256 : Int)) (256 : Int)) (256 : Int)), IntKind.wrap IntKind.u8 (litArith BinOp.rem IntKind.u64 (litArith BinOp.quo IntKind.u64 (litArith BinOp.quo IntKind.u64 (litArith BinOp.quo IntKind.u64 x0 (256 : Int)) (256 : Int)) (256 : Int)) (256 : Int)), IntKind.wrap IntKind.u8 (litArith BinOp.rem IntKind.u64 (litArith BinOp.quo IntKind.u64 (litArith BinOp.quo IntKind.u64 (litArith BinOp.quo IntKind.u64 (litArith BinOp.quo IntKind.u64 x0 (256 : Int)) (256 : Int)) (256 : Int)) (256 : Int)) (256 : Int)), IntKind.wrap IntKind.u8 (litArith BinOp.rem IntKind.u64 (litArith BinOp.quo IntKind.u64 (litArith BinOp.quo IntKind.u64 (litArith BinOp.quo IntKind.u64 (litArith BinOp.quo IntKind.u64 (litArith BinOp.quo IntKind.u64 x0 (256 : Int)) (256 : Int)) (256 : Int)) (256 : Int)) (256 : Int)) (256 : Int)), IntKind.wrap IntKind.u8 (litArith BinOp.rem IntKind.u64 (litArith BinOp.quo IntKind.u64 (litArith BinOp.quo IntKind.u64 (litArith BinOp.quo IntKind.u64 (litArith BinOp.quo IntKind.u64 (litArith BinOp.quo IntKind.u64 (litArith BinOp.quo IntKind.u64 x0 (256 : Int)) (256 : Int)) (256 : Int)) (256 : Int)) (256 : Int)) (256 : Int)) (256 : Int)), IntKind.wrap IntKind.u8 (litArith BinOp.rem IntKind.u64 (litArith BinOp.quo IntKind.u64 (litArith BinOp.quo IntKind.u64 (litArith BinOp.quo IntKind.u64 (litArith BinOp.quo IntKind.u64 (litArith BinOp.quo IntKind.u64 (litArith BinOp.quo IntKind.u64 (litArith BinOp.quo IntKind.u64 x0 (256 : Int)) (256 : Int)) (256 : Int)) (256 : Int)) (256 : Int)) (256 : Int)) (256 : Int)) (256 : Int))] x1 (0 : Int) = byteAt x0 x1) ∧
   (True)) := by
  intro x hx
  simp only [true_and, and_true, true_implies]
  intro i hi
  have hi' : i = 0 ∨ i = 1 ∨ i = 2 ∨ i = 3 ∨ i = 4 ∨ i = 5 ∨ i = 6 ∨ i = 7 := by omega
  obtain ⟨h0, h1⟩ := hx
  simp (discharger := omega) only [quo256, rem256]
  rcases hi' with rfl | rfl | rfl | rfl | rfl | rfl | rfl | rfl <;> simp [byteAt] <;> omega
set_option maxRecDepth 10000 in
theorem put_ok : conPut.ok Try.prog 38 := by
  refine Con.of_vc ([]) ([]) TT_ok follows Try.func38 ?_ G11_ok (@toVC _ _ put_vc ?_)
  · kernel_rfl
  · kernel_rfl
noncomputable def G12 : List (FuncId × Con) := (38, conPut) :: G11
theorem G12_ok : GOK Try.prog G12 := GOK.cons (Callable.of Try.func38 (by kernel_rfl) (by kernel_rfl)) put_ok rfl G11_ok

set_option maxRecDepth 10000 in
theorem rbytes_vc :
  ∀ x0 : Int,
  ∀ x1 : Int,
  ∀ x2 : Int,
  ∀ x3 : Int,
  ((inU64 x1) ∧
    ((inU64 x2) ∧
     (inU64 x3))) →
  (((0 : Int) ≤ x1) ∧
   (x1 < (18446744073709551616 : Int))) ∧
  (True →
   (((0 : Int) ≤ x2) ∧
    (x2 < (18446744073709551616 : Int))) ∧
   (True →
    (((0 : Int) ≤ x3) ∧
     (x3 < (18446744073709551616 : Int))) ∧
    (True →
     (True) ∧
     ((∀ x4 : Nat,
       x4 < (25 : Nat) →
       catF (17 : Nat) (catF (9 : Nat) (catF (1 : Nat) (fun (i : Nat) => List.getD [IntKind.wrap IntKind.u8 x0] i (0 : Int)) (byteAt x1)) (byteAt x2)) (byteAt x3) x4 = callF x0 x1 x2 x3 x4) ∧
      (True))))) := by
  intro op a b c h
  obtain ⟨ha, hb, hc⟩ := h
  refine ⟨ha, fun _ => ⟨hb, fun _ => ⟨hc, fun _ => ⟨trivial, ?_, trivial⟩⟩⟩⟩
  intro i hi
  have hw : IntKind.wrap .u8 op = op % 256 := by
    show (if (false && decide (op % 256 ≥ (2 ^ 7 : Int))) = true then op % 256 - 256 else op % 256) = op % 256
    rw [Bool.false_and, if_neg (by simp)]
  have hi' : i = 0 ∨ i = 1 ∨ i = 2 ∨ i = 3 ∨ i = 4 ∨ i = 5 ∨ i = 6 ∨ i = 7 ∨ i = 8 ∨ i = 9 ∨ i = 10 ∨ i = 11 ∨ i = 12 ∨ i = 13 ∨ i = 14 ∨ i = 15 ∨ i = 16 ∨ i = 17 ∨ i = 18 ∨ i = 19 ∨ i = 20 ∨ i = 21 ∨ i = 22 ∨ i = 23 ∨ i = 24 := by omega
  rw [hw]
  rcases hi' with rfl | rfl | rfl | rfl | rfl | rfl | rfl | rfl | rfl | rfl | rfl | rfl | rfl | rfl | rfl | rfl | rfl | rfl | rfl | rfl | rfl | rfl | rfl | rfl | rfl <;> rfl
set_option maxRecDepth 10000 in
theorem rbytes_ok : conRBytes.ok Try.prog 24 := by
  refine Con.of_vc ([]) ([]) TT_ok follows Try.func24 ?_ G12_ok (@toVC _ _ rbytes_vc ?_)
  · kernel_rfl
  · kernel_rfl
noncomputable def G13 : List (FuncId × Con) := (24, conRBytes) :: G12
theorem G13_ok : GOK Try.prog G13 := GOK.cons (Callable.of Try.func24 (by kernel_rfl) (by kernel_rfl)) rbytes_ok rfl G12_ok

set_option maxRecDepth 10000 in
theorem get_vc :
  ∀ x0 : Int,
  ∀ x1 : Nat → Int,
  ((x0 = (8 : Int)) ∧
    (u8s x0 x1)) →
  (((0 : Int) ≤ (0 : Int)) ∧
   ((0 : Int) < x0)) ∧
  ((((0 : Int) ≤ (1 : Int)) ∧
    ((1 : Int) < x0)) ∧
   ((((0 : Int) ≤ (2 : Int)) ∧
     ((2 : Int) < x0)) ∧
    ((((0 : Int) ≤ (3 : Int)) ∧
      ((3 : Int) < x0)) ∧
     ((((0 : Int) ≤ (4 : Int)) ∧
       ((4 : Int) < x0)) ∧
      ((((0 : Int) ≤ (5 : Int)) ∧
        ((5 : Int) < x0)) ∧
       ((((0 : Int) ≤ (6 : Int)) ∧
         ((6 : Int) < x0)) ∧
        ((((0 : Int) ≤ (7 : Int)) ∧
          ((7 : Int) < x0)) ∧
         ((True) ∧
          ((litArith BinOp.add IntKind.u64 (litArith BinOp.mul IntKind.u64 (litArith BinOp.add IntKind.u64 (litArith BinOp.mul IntKind.u64 (litArith BinOp.add IntKind.u64 (litArith BinOp.mul IntKind.u64 (litArith BinOp.add IntKind.u64 (litArith BinOp.mul IntKind.u64 (litArith BinOp.add IntKind.u64 (litArith BinOp.mul IntKind.u64 (litArith BinOp.add IntKind.u64 (litArith BinOp.mul IntKind.u64 (litArith BinOp.add IntKind.u64 (litArith BinOp.mul IntKind.u64 (litArith BinOp.add IntKind.u64 (0 : Int) (IntKind.wrap IntKind.u64 (x1 (7 : Nat)))) (256 : Int)) (IntKind.wrap IntKind.u64 (x1 (6 : Nat)))) (256 : Int)) (IntKind.wrap IntKind.u64 (x1 (5 : Nat)))) (256 : Int)) (IntKind.wrap IntKind.u64 (x1 (4 : Nat)))) (256 : Int)) (IntKind.wrap IntKind.u64 (x1 (3 : Nat)))) (256 : Int)) (IntKind.wrap IntKind.u64 (x1 (2 : Nat)))) (256 : Int)) (IntKind.wrap IntKind.u64 (x1 (1 : Nat)))) (256 : Int)) (IntKind.wrap IntKind.u64 (x1 (0 : Nat))) = rd x1 (0 : Nat)) ∧
           (True)))))))))) := by
  intro n f h
  obtain ⟨rfl, hf⟩ := h
  have b0 := hf 0 (by decide); have b1 := hf 1 (by decide); have b2 := hf 2 (by decide); have b3 := hf 3 (by decide)
  have b4 := hf 4 (by decide); have b5 := hf 5 (by decide); have b6 := hf 6 (by decide); have b7 := hf 7 (by decide)
  simp (discharger := omega) only [addU, mulU, wrapU]
  simp [rd]
  omega
set_option maxRecDepth 10000 in
theorem get_ok : conGet.ok Try.prog 39 := by
  refine Con.of_vc ([]) ([]) TT_ok follows Try.func39 ?_ G13_ok (@toVC _ _ get_vc ?_)
  · kernel_rfl
  · kernel_rfl
noncomputable def G14 : List (FuncId × Con) := (39, conGet) :: G13
theorem G14_ok : GOK Try.prog G14 := GOK.cons (Callable.of Try.func39 (by kernel_rfl) (by kernel_rfl)) get_ok rfl G13_ok

set_option maxRecDepth 10000 in
theorem rread_vc :
  ∀ x0 : Int,
  ∀ x1 : Nat → Int,
  (∀ x2 : Nat,
    ↑x2 < x0 →
    ((0 : Int) ≤ x1 x2) ∧
    (x1 x2 < (256 : Int))) →
  (litCmp BinOp.neq x0 (25 : Int) = true →
   (True) ∧
   (((0 : Int) = readI x0 x1 (x1 (0 : Nat))) ∧
    (((0 : Int) = readI x0 x1 (rd x1 (1 : Nat))) ∧
     (((0 : Int) = readI x0 x1 (rd x1 (9 : Nat))) ∧
      (((0 : Int) = readI x0 x1 (rd x1 (17 : Nat))) ∧
       ((false = readOK x0 x1) ∧
        (True))))))) ∧
  (litCmp BinOp.neq x0 (25 : Int) = false →
   ((25 : Int) ≤ x0) ∧
   (((17 : Int) ≤ x0) ∧
    (((9 : Int) ≤ x0) ∧
     ((((0 : Int) ≤ (0 : Int)) ∧
       ((0 : Int) < x0)) ∧
      (((((8 : Int) = (8 : Int)) ∧
         (u8s (8 : Int) (shF (1 : Nat) x1))) ∧
        (True →
         ((((8 : Int) = (8 : Int)) ∧
           (u8s (8 : Int) (shF (9 : Nat) x1))) ∧
          (True →
           ((((8 : Int) = (8 : Int)) ∧
             (u8s (8 : Int) (shF (17 : Nat) x1))) ∧
            (True →
             (True) ∧
             (True →
              ((!rightB (IntKind.wrap IntKind.i64 (x1 (0 : Nat))) (rd (shF (1 : Nat) x1) (0 : Nat)) (rd (shF (9 : Nat) x1) (0 : Nat)) (rd (shF (17 : Nat) x1) (0 : Nat))) = true →
               (True) ∧
               (((0 : Int) = readI x0 x1 (x1 (0 : Nat))) ∧
                (((0 : Int) = readI x0 x1 (rd x1 (1 : Nat))) ∧
                 (((0 : Int) = readI x0 x1 (rd x1 (9 : Nat))) ∧
                  (((0 : Int) = readI x0 x1 (rd x1 (17 : Nat))) ∧
                   ((false = readOK x0 x1) ∧
                    (True))))))) ∧
              ((!rightB (IntKind.wrap IntKind.i64 (x1 (0 : Nat))) (rd (shF (1 : Nat) x1) (0 : Nat)) (rd (shF (9 : Nat) x1) (0 : Nat)) (rd (shF (17 : Nat) x1) (0 : Nat))) = false →
               (True) ∧
               ((IntKind.wrap IntKind.i64 (x1 (0 : Nat)) = readI x0 x1 (x1 (0 : Nat))) ∧
                ((rd (shF (1 : Nat) x1) (0 : Nat) = readI x0 x1 (rd x1 (1 : Nat))) ∧
                 ((rd (shF (9 : Nat) x1) (0 : Nat) = readI x0 x1 (rd x1 (9 : Nat))) ∧
                  ((rd (shF (17 : Nat) x1) (0 : Nat) = readI x0 x1 (rd x1 (17 : Nat))) ∧
                   ((true = readOK x0 x1) ∧
                    (True)))))))))) ∧
           ((((8 : Int) = (8 : Int)) ∧
             (u8s (8 : Int) (shF (17 : Nat) x1))) ∧
            (True →
             (True) ∧
             (True →
              ((!rightB (IntKind.wrap IntKind.i64 (x1 (0 : Nat))) (rd (shF (1 : Nat) x1) (0 : Nat)) (rd (shF (9 : Nat) x1) (0 : Nat)) (rd (shF (17 : Nat) x1) (0 : Nat))) = true →
               (True) ∧
               (((0 : Int) = readI x0 x1 (x1 (0 : Nat))) ∧
                (((0 : Int) = readI x0 x1 (rd x1 (1 : Nat))) ∧
                 (((0 : Int) = readI x0 x1 (rd x1 (9 : Nat))) ∧
                  (((0 : Int) = readI x0 x1 (rd x1 (17 : Nat))) ∧
                   ((false = readOK x0 x1) ∧
                    (True))))))) ∧
              ((!rightB (IntKind.wrap IntKind.i64 (x1 (0 : Nat))) (rd (shF (1 : Nat) x1) (0 : Nat)) (rd (shF (9 : Nat) x1) (0 : Nat)) (rd (shF (17 : Nat) x1) (0 : Nat))) = false →
               (True) ∧
               ((IntKind.wrap IntKind.i64 (x1 (0 : Nat)) = readI x0 x1 (x1 (0 : Nat))) ∧
                ((rd (shF (1 : Nat) x1) (0 : Nat) = readI x0 x1 (rd x1 (1 : Nat))) ∧
                 ((rd (shF (9 : Nat) x1) (0 : Nat) = readI x0 x1 (rd x1 (9 : Nat))) ∧
                  ((rd (shF (17 : Nat) x1) (0 : Nat) = readI x0 x1 (rd x1 (17 : Nat))) ∧
                   ((true = readOK x0 x1) ∧
                    (True)))))))))))) ∧
         ((((8 : Int) = (8 : Int)) ∧
           (u8s (8 : Int) (shF (9 : Nat) x1))) ∧
          (True →
           (((8 : Int) = (8 : Int)) ∧
            (u8s (8 : Int) (shF (17 : Nat) x1))) ∧
           (True →
            (True) ∧
            (True →
             ((!rightB (IntKind.wrap IntKind.i64 (x1 (0 : Nat))) (rd (shF (1 : Nat) x1) (0 : Nat)) (rd (shF (9 : Nat) x1) (0 : Nat)) (rd (shF (17 : Nat) x1) (0 : Nat))) = true →
              (True) ∧
              (((0 : Int) = readI x0 x1 (x1 (0 : Nat))) ∧
               (((0 : Int) = readI x0 x1 (rd x1 (1 : Nat))) ∧
                (((0 : Int) = readI x0 x1 (rd x1 (9 : Nat))) ∧
                 (((0 : Int) = readI x0 x1 (rd x1 (17 : Nat))) ∧
                  ((false = readOK x0 x1) ∧
                   (True))))))) ∧
             ((!rightB (IntKind.wrap IntKind.i64 (x1 (0 : Nat))) (rd (shF (1 : Nat) x1) (0 : Nat)) (rd (shF (9 : Nat) x1) (0 : Nat)) (rd (shF (17 : Nat) x1) (0 : Nat))) = false →
              (True) ∧
              ((IntKind.wrap IntKind.i64 (x1 (0 : Nat)) = readI x0 x1 (x1 (0 : Nat))) ∧
               ((rd (shF (1 : Nat) x1) (0 : Nat) = readI x0 x1 (rd x1 (1 : Nat))) ∧
                ((rd (shF (9 : Nat) x1) (0 : Nat) = readI x0 x1 (rd x1 (9 : Nat))) ∧
                 ((rd (shF (17 : Nat) x1) (0 : Nat) = readI x0 x1 (rd x1 (17 : Nat))) ∧
                  ((true = readOK x0 x1) ∧
                   (True))))))))))))) ∧
       ((((8 : Int) = (8 : Int)) ∧
         (u8s (8 : Int) (shF (1 : Nat) x1))) ∧
        (True →
         (((8 : Int) = (8 : Int)) ∧
          (u8s (8 : Int) (shF (9 : Nat) x1))) ∧
         (True →
          (((8 : Int) = (8 : Int)) ∧
           (u8s (8 : Int) (shF (17 : Nat) x1))) ∧
          (True →
           (True) ∧
           (True →
            ((!rightB (IntKind.wrap IntKind.i64 (x1 (0 : Nat))) (rd (shF (1 : Nat) x1) (0 : Nat)) (rd (shF (9 : Nat) x1) (0 : Nat)) (rd (shF (17 : Nat) x1) (0 : Nat))) = true →
             (True) ∧
             (((0 : Int) = readI x0 x1 (x1 (0 : Nat))) ∧
              (((0 : Int) = readI x0 x1 (rd x1 (1 : Nat))) ∧
               (((0 : Int) = readI x0 x1 (rd x1 (9 : Nat))) ∧
                (((0 : Int) = readI x0 x1 (rd x1 (17 : Nat))) ∧
                 ((false = readOK x0 x1) ∧
                  (True))))))) ∧
            ((!rightB (IntKind.wrap IntKind.i64 (x1 (0 : Nat))) (rd (shF (1 : Nat) x1) (0 : Nat)) (rd (shF (9 : Nat) x1) (0 : Nat)) (rd (shF (17 : Nat) x1) (0 : Nat))) = false →
             (True) ∧
             ((IntKind.wrap IntKind.i64 (x1 (0 : Nat)) = readI x0 x1 (x1 (0 : Nat))) ∧
              ((rd (shF (1 : Nat) x1) (0 : Nat) = readI x0 x1 (rd x1 (1 : Nat))) ∧
               ((rd (shF (9 : Nat) x1) (0 : Nat) = readI x0 x1 (rd x1 (9 : Nat))) ∧
                ((rd (shF (17 : Nat) x1) (0 : Nat) = readI x0 x1 (rd x1 (17 : Nat))) ∧
                 ((true = readOK x0 x1) ∧
                  (True))))))))))))))))) := by
  intro n f hf
  refine ⟨fun h => ?_, fun h => ?_⟩
  · have hn : n ≠ 25 := by simpa [litCmp] using h
    simp [readI, readOK, hn]
  · have hn : n = 25 := by simpa [litCmp] using h
    subst hn
    have e0 := wrapI (f 0) (hf 0 (by decide)).1 (hf 0 (by decide)).2
    have e1 : ∀ k, rd (shF k f) 0 = rd f k := fun k => by simp [rd, shF]
    have u1 : u8s 8 (shF 1 f) := fun i hi => hf (1 + i) (by omega)
    have u9 : u8s 8 (shF 9 f) := fun i hi => hf (9 + i) (by omega)
    have u17 : u8s 8 (shF 17 f) := fun i hi => hf (17 + i) (by omega)
    simp only [e0, e1, u1, u9, u17, true_and, and_true, true_implies]
    cases h : rightB (f 0) (rd f 1) (rd f 9) (rd f 17) <;> simp [readI, readOK, h]
set_option maxRecDepth 10000 in
theorem rread_ok : conRead.ok Try.prog 26 := by
  refine Con.of_vc ([]) ([]) TT_ok follows Try.func26 ?_ G14_ok (@toVC _ _ rread_vc ?_)
  · kernel_rfl
  · kernel_rfl
noncomputable def G15 : List (FuncId × Con) := (26, conRead) :: G14
theorem G15_ok : GOK Try.prog G15 := GOK.cons (Callable.of Try.func26 (by kernel_rfl) (by kernel_rfl)) rread_ok rfl G14_ok

set_option maxRecDepth 10000 in
theorem same_vc :
  ∀ x0 : Int,
  ∀ x1 : Nat → Int,
  ∀ x2 : Int,
  ∀ x3 : Nat → Int,
  True →
  (True) ∧
  ((seqS (mkS (Int.toNat x0) x1) (mkS (Int.toNat x2) x3) = sameB x0 x1 x2 x3) ∧
   (True)) := by
  intro n f m g _
  exact ⟨trivial, rfl, trivial⟩
set_option maxRecDepth 10000 in
theorem same_ok : conSame.ok Try.prog 23 := by
  refine Con.of_vc ([]) ([]) TT_ok follows Try.func23 ?_ G15_ok (@toVC _ _ same_vc ?_)
  · kernel_rfl
  · kernel_rfl
noncomputable def G16 : List (FuncId × Con) := (23, conSame) :: G15
theorem G16_ok : GOK Try.prog G16 := GOK.cons (Callable.of Try.func23 (by kernel_rfl) (by kernel_rfl)) same_ok rfl G15_ok

set_option maxRecDepth 10000 in
theorem alive14_vc :
  True →
  (True) ∧
  (True →
   (True) ∧
   (True →
    (True) ∧
    (True →
     (∀ x0 : Nat,
      ↑x0 < (25 : Int) →
      ((0 : Int) ≤ callF (4 : Int) (258 : Int) (3 : Int) (0 : Int) x0) ∧
      (callF (4 : Int) (258 : Int) (3 : Int) (0 : Int) x0 < (256 : Int))) ∧
     (True →
      (isop (4 : Int) = true →
       ((seqS (nm (4 : Int)) { data := #[(97 : UInt8), (114 : UInt8), (109 : UInt8)] } && ((3 : Int) == (3 : Int) && ((1 : Int) == (1 : Int) && (1 : Int) == (1 : Int)))) = true →
        (Prod.snd (named { data := #[(97 : UInt8), (114 : UInt8), (109 : UInt8)] }) = true →
         (litCmp BinOp.eql (4 : Int) (4 : Int) = true →
          (rightB (4 : Int) (258 : Int) (3 : Int) (0 : Int) = true →
           (litCmp BinOp.eql (25 : Int) (25 : Int) = true →
            (((0 : Int) ≤ (0 : Int)) ∧
             ((0 : Int) < (25 : Int))) ∧
            ((litCmp BinOp.eql (4 : Int) (4 : Int) = true →
              (((0 : Int) ≤ (1 : Int)) ∧
               ((1 : Int) < (25 : Int))) ∧
              ((litCmp BinOp.eql (2 : Int) (2 : Int) = true →
                (((0 : Int) ≤ (2 : Int)) ∧
                 ((2 : Int) < (25 : Int))) ∧
                ((litCmp BinOp.eql (1 : Int) (1 : Int) = true →
                  (((0 : Int) ≤ (9 : Int)) ∧
                   ((9 : Int) < (25 : Int))) ∧
                  ((litCmp BinOp.eql (3 : Int) (3 : Int) = true →
                    (readOK (25 : Int) (callF (4 : Int) (258 : Int) (3 : Int) (0 : Int)) = true →
                     (((4 : Int) == (4 : Int) && ((258 : Int) == (258 : Int) && ((3 : Int) == (3 : Int) && (0 : Int) == (0 : Int)))) = true →
                      (True) ∧
                      (True →
                       (True) ∧
                       (((!rightB (13 : Int) (0 : Int) (0 : Int) (0 : Int)) = true) ∧
                        (True)))) ∧
                     (((4 : Int) == (4 : Int) && ((258 : Int) == (258 : Int) && ((3 : Int) == (3 : Int) && (0 : Int) == (0 : Int)))) = false →
                      (True) ∧
                      (False))) ∧
                    (readOK (25 : Int) (callF (4 : Int) (258 : Int) (3 : Int) (0 : Int)) = false →
                     (True) ∧
                     (False))) ∧
                   (litCmp BinOp.eql (3 : Int) (3 : Int) = false →
                    (True) ∧
                    (False)))) ∧
                 (litCmp BinOp.eql (1 : Int) (1 : Int) = false →
                  (True) ∧
                  (False)))) ∧
               (litCmp BinOp.eql (2 : Int) (2 : Int) = false →
                (True) ∧
                (False)))) ∧
             (litCmp BinOp.eql (4 : Int) (4 : Int) = false →
              (True) ∧
              (False)))) ∧
           (litCmp BinOp.eql (25 : Int) (25 : Int) = false →
            (True) ∧
            (False))) ∧
          (rightB (4 : Int) (258 : Int) (3 : Int) (0 : Int) = false →
           (True) ∧
           (False))) ∧
         (litCmp BinOp.eql (4 : Int) (4 : Int) = false →
          (True) ∧
          (False))) ∧
        (Prod.snd (named { data := #[(97 : UInt8), (114 : UInt8), (109 : UInt8)] }) = false →
         (True) ∧
         (False))) ∧
       ((seqS (nm (4 : Int)) { data := #[(97 : UInt8), (114 : UInt8), (109 : UInt8)] } && ((3 : Int) == (3 : Int) && ((1 : Int) == (1 : Int) && (1 : Int) == (1 : Int)))) = false →
        (True) ∧
        (False))) ∧
      (isop (4 : Int) = false →
       (True) ∧
       (False)))))) := by
  intro _
  have q1 : isop 4 = true := by decide
  have q2 : ∀ x : ByteArray, x = nm 4 → seqS (nm 4) x = true := fun x hx => by rw [hx]; simp [seqS]
  have q3 : Prod.snd (named (nm 4)) = true := by simp [named, namedL, eqs, nm, nmL]
  have q4 : rightB 4 258 3 0 = true := by decide
  have q5 : readOK 25 (callF 4 258 3 0) = true := by decide
  have q6 : rightB 13 0 0 0 = false := by decide
  have q7 : ∀ i : Nat, (i : Int) < 25 → 0 ≤ callF 4 258 3 0 i ∧ callF 4 258 3 0 i < 256 := fun i hi => by
    have : ∀ j : Fin 25, 0 ≤ callF 4 258 3 0 j.1 ∧ callF 4 258 3 0 j.1 < 256 := by decide
    exact this ⟨i, by omega⟩
  have q8 := q2 (nm 4) rfl
  change seqS (nm 4) ⟨#[97, 114, 109]⟩ = true at q8
  change Prod.snd (named ⟨#[97, 114, 109]⟩) = true at q3
  simp only [q1, q8, q3, q4, q5, q6, true_and, and_true, true_implies]
  refine ⟨q7, ?_⟩
  simp [litCmp]
set_option maxRecDepth 10000 in
theorem alive14_ok : conAlive.ok Try.prog 13 := by
  refine Con.of_vc ([]) ([]) TT_ok follows Try.func13 ?_ G16_ok (@toVC _ _ alive14_vc ?_)
  · kernel_rfl
  · kernel_rfl
noncomputable def G17 : List (FuncId × Con) := (13, conAlive) :: G16
theorem G17_ok : GOK Try.prog G17 := GOK.cons (Callable.of Try.func13 (by kernel_rfl) (by kernel_rfl)) alive14_ok rfl G16_ok
end Go.Proofs.Ytkhbodngiodklaa
