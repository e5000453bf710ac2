/- The laws CallReads and CallBack. -/
import Derived.Test.YtkhbodngiodklaaCd
import Derived.Test.YtkhbodngiodklaaDyP
set_option linter.all false
namespace Go.Proofs.Ytkhbodngiodklaa
open Go Go.Dx

theorem inU64_of {n : Int} (h : wfK .u64 n) : inU64 n := by
  unfold wfK at h
  simp [Lit.wf, IntKind.min, IntKind.max, IntKind.signed, IntKind.bits] at h
  unfold inU64
  omega
theorem u8s_of {n : Int} {f : Nat → Int} (h : ∀ i : Nat, (i : Int) < n → wfK .u8 (f i)) : u8s n f := fun i hi => by
  have := h i hi
  unfold wfK at this
  simp [Lit.wf, IntKind.min, IntKind.max, IntKind.signed, IntKind.bits] at this
  omega
theorem kn_ci {us : List U} (h : us.map U.kn = [.ci]) : ∃ f, us = [.ci f] := by
  match us, h with
  | [.ci f], _ => exact ⟨f, rfl⟩
theorem mkS_congr {n : Nat} {f g : Nat → Int} (h : ∀ i, i < n → f i = g i) : mkS n f = mkS n g := by
  unfold mkS
  congr 2
  apply List.map_congr_left
  intro i hi
  rw [h i (by simpa using hi)]
theorem sameB_of {n m : Int} {f g : Nat → Int} (hn : n = m) (h : ∀ i : Nat, (i : Int) < n → f i = g i) : sameB n f m g = true := by
  subst hn
  unfold sameB seqS
  rw [mkS_congr (f := f) (g := g) (fun i hi => h i (by omega))]
  simp
theorem rd_call {op a b c : Int} (ha : inU64 a) (hb : inU64 b) (hc : inU64 c) : rd (callF op a b c) 1 = a ∧ rd (callF op a b c) 9 = b ∧ rd (callF op a b c) 17 = c := by
  obtain ⟨a0, a1⟩ := ha
  obtain ⟨b0, b1⟩ := hb
  obtain ⟨c0, c1⟩ := hc
  refine ⟨?_, ?_, ?_⟩ <;> simp [rd, callF, callL, le8, byteAt, List.range, List.range.loop] <;> omega
theorem callF_u8 {op a b c : Int} : u8s 25 (callF op a b c) := by
  intro i hi
  have hi' : i = 0 ∨ i = 1 ∨ i = 2 ∨ i = 3 ∨ i = 4 ∨ i = 5 ∨ i = 6 ∨ i = 7 ∨ i = 8 ∨ i = 9 ∨ i = 10 ∨ i = 11 ∨ i = 12 ∨ i = 13 ∨ i = 14 ∨ i = 15 ∨ i = 16 ∨ i = 17 ∨ i = 18 ∨ i = 19 ∨ i = 20 ∨ i = 21 ∨ i = 22 ∨ i = 23 ∨ i = 24 := by omega
  rcases hi' with rfl | rfl | rfl | rfl | rfl | rfl | rfl | rfl | rfl | rfl | rfl | rfl | rfl | rfl | rfl | rfl | rfl | rfl | rfl | rfl | rfl | rfl | rfl | rfl | rfl <;> simp [callF, callL, le8, byteAt, List.range, List.range.loop] <;> omega
theorem byte_rd {f : Nat → Int} {k : Nat} (hf : ∀ i, k ≤ i → i < k + 8 → 0 ≤ f i ∧ f i < 256) : byteAt (rd f k) 0 = f k ∧ byteAt (rd f k) 1 = f (k + 1) ∧ byteAt (rd f k) 2 = f (k + 2) ∧ byteAt (rd f k) 3 = f (k + 3) ∧ byteAt (rd f k) 4 = f (k + 4) ∧ byteAt (rd f k) 5 = f (k + 5) ∧ byteAt (rd f k) 6 = f (k + 6) ∧ byteAt (rd f k) 7 = f (k + 7) := by
  have h0 := hf k (by omega) (by omega); have h1 := hf (k + 1) (by omega) (by omega); have h2 := hf (k + 2) (by omega) (by omega); have h3 := hf (k + 3) (by omega) (by omega)
  have h4 := hf (k + 4) (by omega) (by omega); have h5 := hf (k + 5) (by omega) (by omega); have h6 := hf (k + 6) (by omega) (by omega); have h7 := hf (k + 7) (by omega) (by omega)
  refine ⟨?_, ?_, ?_, ?_, ?_, ?_, ?_, ?_⟩ <;> simp [rd, byteAt] <;> omega
theorem call_rd {f : Nat → Int} (hf : u8s 25 f) (i : Nat) (hi : i < 25) : callF (f 0) (rd f 1) (rd f 9) (rd f 17) i = f i := by
  have h0 := hf 0 (by decide)
  obtain ⟨p0, p1, p2, p3, p4, p5, p6, p7⟩ := byte_rd (f := f) (k := 1) (fun i _ _ => hf i (by omega))
  obtain ⟨q0, q1, q2, q3, q4, q5, q6, q7⟩ := byte_rd (f := f) (k := 9) (fun i _ _ => hf i (by omega))
  obtain ⟨r0, r1, r2, r3, r4, r5, r6, r7⟩ := byte_rd (f := f) (k := 17) (fun i _ _ => hf i (by omega))
  have hi' : i = 0 ∨ i = 1 ∨ i = 2 ∨ i = 3 ∨ i = 4 ∨ i = 5 ∨ i = 6 ∨ i = 7 ∨ i = 8 ∨ i = 9 ∨ i = 10 ∨ i = 11 ∨ i = 12 ∨ i = 13 ∨ i = 14 ∨ i = 15 ∨ i = 16 ∨ i = 17 ∨ i = 18 ∨ i = 19 ∨ i = 20 ∨ i = 21 ∨ i = 22 ∨ i = 23 ∨ i = 24 := by omega
  rcases hi' with rfl | rfl | rfl | rfl | rfl | rfl | rfl | rfl | rfl | rfl | rfl | rfl | rfl | rfl | rfl | rfl | rfl | rfl | rfl | rfl | rfl | rfl | rfl | rfl | rfl <;> simp [callF, callL, le8, List.range, List.range.loop, *] <;> omega

set_option maxRecDepth 10000 in
theorem reads_vc :
  ∀ x0 : Int,
  ∀ x1 : Int,
  ∀ x2 : Int,
  ∀ x3 : Int,
  ∀ x4 : Int,
  ∀ x5 : Nat → Int,
  ((inU64 x1) ∧
    ((inU64 x2) ∧
     ((inU64 x3) ∧
      (u8s x4 x5)))) →
  (True) ∧
  (True →
   (True) ∧
   (True →
    (True) ∧
    (True →
     ((!rightB x0 x1 x2 x3 == rightB x0 x1 x2 x3) = true →
      (True) ∧
      (False)) ∧
     ((!rightB x0 x1 x2 x3 == rightB x0 x1 x2 x3) = false →
      (rightB x0 x1 x2 x3 = true →
       ((inU64 x1) ∧
        ((inU64 x2) ∧
         (inU64 x3))) ∧
       (True →
        (True) ∧
        (True →
         ((!sameB (callN x0 x1 x2 x3) (callF x0 x1 x2 x3) (25 : Int) (callF x0 x1 x2 x3)) = true →
          (True) ∧
          (False)) ∧
         ((!sameB (callN x0 x1 x2 x3) (callF x0 x1 x2 x3) (25 : Int) (callF x0 x1 x2 x3)) = false →
          ((!rightB x0 x1 x2 x3) = true →
           False) ∧
          ((!rightB x0 x1 x2 x3) = false →
           (∀ x6 : Nat,
            ↑x6 < x4 →
            ((0 : Int) ≤ x5 x6) ∧
            (x5 x6 < (256 : Int))) ∧
           (True →
            (∀ x7 : Nat,
             ↑x7 < x4 →
             ((0 : Int) ≤ x5 x7) ∧
             (x5 x7 < (256 : Int))) ∧
            (True →
             ((readI x4 x5 (x5 (0 : Nat)) == readI x4 x5 (x5 (0 : Nat)) && (readI x4 x5 (rd x5 (1 : Nat)) == readI x4 x5 (rd x5 (1 : Nat)) && (readI x4 x5 (rd x5 (9 : Nat)) == readI x4 x5 (rd x5 (9 : Nat)) && readI x4 x5 (rd x5 (17 : Nat)) == readI x4 x5 (rd x5 (17 : Nat))))) = true →
              (True) ∧
              (((readOK x4 x5 == readOK x4 x5) = true) ∧
               (True))) ∧
             ((readI x4 x5 (x5 (0 : Nat)) == readI x4 x5 (x5 (0 : Nat)) && (readI x4 x5 (rd x5 (1 : Nat)) == readI x4 x5 (rd x5 (1 : Nat)) && (readI x4 x5 (rd x5 (9 : Nat)) == readI x4 x5 (rd x5 (9 : Nat)) && readI x4 x5 (rd x5 (17 : Nat)) == readI x4 x5 (rd x5 (17 : Nat))))) = false →
              (True) ∧
              (False))))))))) ∧
      (rightB x0 x1 x2 x3 = false →
       ((!rightB x0 x1 x2 x3) = true →
        (litCmp BinOp.neq (callN x0 x1 x2 x3) (0 : Int) = true →
         (True) ∧
         (False)) ∧
        (litCmp BinOp.neq (callN x0 x1 x2 x3) (0 : Int) = false →
         (∀ x8 : Nat,
          ↑x8 < x4 →
          ((0 : Int) ≤ x5 x8) ∧
          (x5 x8 < (256 : Int))) ∧
         (True →
          (∀ x9 : Nat,
           ↑x9 < x4 →
           ((0 : Int) ≤ x5 x9) ∧
           (x5 x9 < (256 : Int))) ∧
          (True →
           ((readI x4 x5 (x5 (0 : Nat)) == readI x4 x5 (x5 (0 : Nat)) && (readI x4 x5 (rd x5 (1 : Nat)) == readI x4 x5 (rd x5 (1 : Nat)) && (readI x4 x5 (rd x5 (9 : Nat)) == readI x4 x5 (rd x5 (9 : Nat)) && readI x4 x5 (rd x5 (17 : Nat)) == readI x4 x5 (rd x5 (17 : Nat))))) = true →
            (True) ∧
            (((readOK x4 x5 == readOK x4 x5) = true) ∧
             (True))) ∧
           ((readI x4 x5 (x5 (0 : Nat)) == readI x4 x5 (x5 (0 : Nat)) && (readI x4 x5 (rd x5 (1 : Nat)) == readI x4 x5 (rd x5 (1 : Nat)) && (readI x4 x5 (rd x5 (9 : Nat)) == readI x4 x5 (rd x5 (9 : Nat)) && readI x4 x5 (rd x5 (17 : Nat)) == readI x4 x5 (rd x5 (17 : Nat))))) = false →
            (True) ∧
            (False)))))) ∧
       ((!rightB x0 x1 x2 x3) = false →
        False)))))) := by
  intro op a b c n f h
  obtain ⟨ha, hb, hc, hf⟩ := h
  have e : (∀ i : Nat, (i : Int) < n → (0 : Int) ≤ f i ∧ f i < (256 : Int)) = True := eq_true hf
  cases h : rightB op a b c
  · have h1 : callN op a b c = 0 := by simp [callN, h]
    simp [h1, e, litCmp]
  · have h1 : sameB (callN op a b c) (callF op a b c) 25 (callF op a b c) = true := sameB_of (by simp [callN, h]) (fun _ _ => rfl)
    simp [h1, ha, hb, hc, e, litCmp]
set_option maxRecDepth 10000 in
theorem reads_ok : conReads.ok Try.prog 4 := by
  refine Con.of_vc ([]) ([[true, false, true, false], [false, false, false]]) TT_ok follows Try.func4 ?_ G18_ok (@toVC _ _ reads_vc ?_)
  · kernel_rfl
  · kernel_rfl
noncomputable def G19 : List (FuncId × Con) := (4, conReads) :: G18
theorem G19_ok : GOK Try.prog G19 := GOK.cons (Callable.of Try.func4 (by kernel_rfl) (by kernel_rfl)) reads_ok rfl G18_ok

set_option maxRecDepth 10000 in
theorem back_vc :
  ∀ x0 : Int,
  ∀ x1 : Int,
  ∀ x2 : Int,
  ∀ x3 : Int,
  ∀ x4 : Int,
  ∀ x5 : Nat → Int,
  ((inU64 x1) ∧
    ((inU64 x2) ∧
     ((inU64 x3) ∧
      (u8s x4 x5)))) →
  (True) ∧
  (True →
   (True) ∧
   (True →
    (True) ∧
    (True →
     ((!rightB x0 x1 x2 x3 == rightB x0 x1 x2 x3) = true →
      (True) ∧
      (False)) ∧
     ((!rightB x0 x1 x2 x3 == rightB x0 x1 x2 x3) = false →
      (rightB x0 x1 x2 x3 = true →
       (∀ x6 : Nat,
        ↑x6 < callN x0 x1 x2 x3 →
        ((0 : Int) ≤ callF x0 x1 x2 x3 x6) ∧
        (callF x0 x1 x2 x3 x6 < (256 : Int))) ∧
       (True →
        ((!readOK (callN x0 x1 x2 x3) (callF x0 x1 x2 x3)) = true →
         (True) ∧
         (False)) ∧
        ((!readOK (callN x0 x1 x2 x3) (callF x0 x1 x2 x3)) = false →
         ((!(readI (callN x0 x1 x2 x3) (callF x0 x1 x2 x3) (callF x0 x1 x2 x3 (0 : Nat)) == x0 && (readI (callN x0 x1 x2 x3) (callF x0 x1 x2 x3) (rd (callF x0 x1 x2 x3) (1 : Nat)) == x1 && (readI (callN x0 x1 x2 x3) (callF x0 x1 x2 x3) (rd (callF x0 x1 x2 x3) (9 : Nat)) == x2 && readI (callN x0 x1 x2 x3) (callF x0 x1 x2 x3) (rd (callF x0 x1 x2 x3) (17 : Nat)) == x3)))) = true →
          (True) ∧
          (False)) ∧
         ((!(readI (callN x0 x1 x2 x3) (callF x0 x1 x2 x3) (callF x0 x1 x2 x3 (0 : Nat)) == x0 && (readI (callN x0 x1 x2 x3) (callF x0 x1 x2 x3) (rd (callF x0 x1 x2 x3) (1 : Nat)) == x1 && (readI (callN x0 x1 x2 x3) (callF x0 x1 x2 x3) (rd (callF x0 x1 x2 x3) (9 : Nat)) == x2 && readI (callN x0 x1 x2 x3) (callF x0 x1 x2 x3) (rd (callF x0 x1 x2 x3) (17 : Nat)) == x3)))) = false →
          (litCmp BinOp.gtr x4 (100 : Int) = true →
           (True) ∧
           (True)) ∧
          (litCmp BinOp.gtr x4 (100 : Int) = false →
           (∀ x7 : Nat,
            ↑x7 < x4 →
            ((0 : Int) ≤ x5 x7) ∧
            (x5 x7 < (256 : Int))) ∧
           (True →
            ((!readOK x4 x5) = true →
             (True) ∧
             (((readI x4 x5 (x5 (0 : Nat)) == (0 : Int) && (readI x4 x5 (rd x5 (1 : Nat)) == (0 : Int) && (readI x4 x5 (rd x5 (9 : Nat)) == (0 : Int) && readI x4 x5 (rd x5 (17 : Nat)) == (0 : Int)))) = true) ∧
              (True))) ∧
            ((!readOK x4 x5) = false →
             (True) ∧
             (True →
              (rightB (readI x4 x5 (x5 (0 : Nat))) (readI x4 x5 (rd x5 (1 : Nat))) (readI x4 x5 (rd x5 (9 : Nat))) (readI x4 x5 (rd x5 (17 : Nat))) = true →
               (True) ∧
               (True →
                (True) ∧
                ((sameB (callN (readI x4 x5 (x5 (0 : Nat))) (readI x4 x5 (rd x5 (1 : Nat))) (readI x4 x5 (rd x5 (9 : Nat))) (readI x4 x5 (rd x5 (17 : Nat)))) (callF (readI x4 x5 (x5 (0 : Nat))) (readI x4 x5 (rd x5 (1 : Nat))) (readI x4 x5 (rd x5 (9 : Nat))) (readI x4 x5 (rd x5 (17 : Nat)))) x4 x5 = true) ∧
                 (True)))) ∧
              (rightB (readI x4 x5 (x5 (0 : Nat))) (readI x4 x5 (rd x5 (1 : Nat))) (readI x4 x5 (rd x5 (9 : Nat))) (readI x4 x5 (rd x5 (17 : Nat))) = false →
               (True) ∧
               (False)))))))))) ∧
      (rightB x0 x1 x2 x3 = false →
       (litCmp BinOp.gtr x4 (100 : Int) = true →
        (True) ∧
        (True)) ∧
       (litCmp BinOp.gtr x4 (100 : Int) = false →
        (∀ x8 : Nat,
         ↑x8 < x4 →
         ((0 : Int) ≤ x5 x8) ∧
         (x5 x8 < (256 : Int))) ∧
        (True →
         ((!readOK x4 x5) = true →
          (True) ∧
          (((readI x4 x5 (x5 (0 : Nat)) == (0 : Int) && (readI x4 x5 (rd x5 (1 : Nat)) == (0 : Int) && (readI x4 x5 (rd x5 (9 : Nat)) == (0 : Int) && readI x4 x5 (rd x5 (17 : Nat)) == (0 : Int)))) = true) ∧
           (True))) ∧
         ((!readOK x4 x5) = false →
          (True) ∧
          (True →
           (rightB (readI x4 x5 (x5 (0 : Nat))) (readI x4 x5 (rd x5 (1 : Nat))) (readI x4 x5 (rd x5 (9 : Nat))) (readI x4 x5 (rd x5 (17 : Nat))) = true →
            (True) ∧
            (True →
             (True) ∧
             ((sameB (callN (readI x4 x5 (x5 (0 : Nat))) (readI x4 x5 (rd x5 (1 : Nat))) (readI x4 x5 (rd x5 (9 : Nat))) (readI x4 x5 (rd x5 (17 : Nat)))) (callF (readI x4 x5 (x5 (0 : Nat))) (readI x4 x5 (rd x5 (1 : Nat))) (readI x4 x5 (rd x5 (9 : Nat))) (readI x4 x5 (rd x5 (17 : Nat)))) x4 x5 = true) ∧
              (True)))) ∧
           (rightB (readI x4 x5 (x5 (0 : Nat))) (readI x4 x5 (rd x5 (1 : Nat))) (readI x4 x5 (rd x5 (9 : Nat))) (readI x4 x5 (rd x5 (17 : Nat))) = false →
            (True) ∧
            (False))))))))))) := by
  intro op a b c n f h
  obtain ⟨ha, hb, hc, hf⟩ := h
  have e : (∀ i : Nat, (i : Int) < n → (0 : Int) ≤ f i ∧ f i < (256 : Int)) = True := eq_true hf
  have hcall : rightB op a b c = true → callN op a b c = 25 ∧ readOK 25 (callF op a b c) = true ∧ callF op a b c 0 = op ∧ rd (callF op a b c) 1 = a ∧ rd (callF op a b c) 9 = b ∧ rd (callF op a b c) 17 = c := fun h => by
    obtain ⟨r1, r2, r3⟩ := rd_call (op := op) ha hb hc
    have hi : isop op = true := by
      cases q : isop op with
      | true => rfl
      | false => simp [rightB, q] at h
    have hi' : 0 ≤ op ∧ op < 13 := by simpa [isop] using hi
    have r0 : callF op a b c 0 = op := by show op % 256 = op; omega
    exact ⟨by simp [callN, h], by simp [readOK, r0, r1, r2, r3, h], r0, r1, r2, r3⟩
  have e2 : rightB op a b c = true → (∀ i : Nat, (i : Int) < callN op a b c → (0 : Int) ≤ callF op a b c i ∧ callF op a b c i < (256 : Int)) = True := fun h => eq_true (by rw [(hcall h).1]; exact callF_u8)
  have e3 : (∀ i : Nat, (i : Int) < 25 → (0 : Int) ≤ callF op a b c i ∧ callF op a b c i < (256 : Int)) = True := eq_true callF_u8
  have tail : readOK n f = true → rightB (f 0) (rd f 1) (rd f 9) (rd f 17) = true ∧ sameB (callN (f 0) (rd f 1) (rd f 9) (rd f 17)) (callF (f 0) (rd f 1) (rd f 9) (rd f 17)) n f = true := fun h => by
    have h' : n = 25 ∧ rightB (f 0) (rd f 1) (rd f 9) (rd f 17) = true := by simpa [readOK] using h
    obtain ⟨rfl, hr⟩ := h'
    exact ⟨hr, sameB_of (by simp [callN, hr]) (fun i hi => call_rd hf i (by simp [callN, hr] at hi; omega))⟩
  have rI : ∀ x, readI n f x = if readOK n f then x else 0 := fun x => rfl
  have rJ : rightB op a b c = true → ∀ x, readI 25 (callF op a b c) x = x := fun h x => by simp [readI, (hcall h).2.1]
  cases h2 : readOK n f <;> cases h : rightB op a b c
  · simp [rI, h2, e]
  · obtain ⟨p0, p1, p2, p3, p4, p5⟩ := hcall h
    simp [rI, h2, e, e3, p0, p1, p2, p3, p4, p5, rJ h]
  · obtain ⟨t1, t2⟩ := tail h2
    simp [rI, h2, e, t1, t2]
  · obtain ⟨t1, t2⟩ := tail h2
    obtain ⟨p0, p1, p2, p3, p4, p5⟩ := hcall h
    simp [rI, h2, e, e3, p0, p1, p2, p3, p4, p5, rJ h, t1, t2]
set_option maxRecDepth 10000 in
theorem back_ok : conBack.ok Try.prog 5 := by
  refine Con.of_vc ([]) ([]) TT_ok follows Try.func5 ?_ G19_ok (@toVC _ _ back_vc ?_)
  · kernel_rfl
  · kernel_rfl
noncomputable def G20 : List (FuncId × Con) := (5, conBack) :: G19
theorem G20_ok : GOK Try.prog G20 := GOK.cons (Callable.of Try.func5 (by kernel_rfl) (by kernel_rfl)) back_ok rfl G19_ok
end Go.Proofs.Ytkhbodngiodklaa
