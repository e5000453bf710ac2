/- The laws of package wheel: WheelFar. -/
import Derived.Test.YtlkmdighjgpdlaaZ2
import Derived.Test.YtlkmdighjgpdlaaRows
import Derived.Test.YtlkmdighjgpdlaaFt
set_option linter.all false
namespace Go.Proofs.Ytlkmdighjgpdlaa
open Go Go.Fx
theorem u64_wf {n : Int} (h : wfK .u64 n) : u64ok n := by
  unfold wfK at h
  simp [Lit.wf, IntKind.min, IntKind.max, IntKind.signed, IntKind.bits] at h
  unfold u64ok
  omega
theorem u64_of {n : Int} (h : Fits (.i .u64) n) : u64ok n := u64_wf h.out
theorem ix_mem {α : Type} [Inhabited α] {l : List α} {k : Int} (h0 : 0 ≤ k) (h1 : k < l.length) : ix l k ∈ l := by
  unfold ix
  rw [List.getD_eq_getElem?_getD, List.getElem?_eq_getElem (by omega)]
  exact List.getElem_mem _
theorem u64_ix {l : List Int} (h : Fits (.sl (.i .u64)) l) {k : Int} (h0 : 0 ≤ k) (h1 : k < l.length) : u64ok (ix l k) := u64_wf (h.out.2 _ (ix_mem h0 h1))
/-- One alarm alone. -/
def W1 (told : Bool) (at_ time : Int) : Wh := ([if told then (false, 0, 0) else (true, at_, 0)], time)
theorem W1_to (told : Bool) (at_ time s : Int) : toR (W1 told at_ time) s = W1 (told || decide (at_ ≤ if time < s then s else time)) at_ (if time < s then s else time) ∧ outR (W1 told at_ time) s = if !told && decide (at_ ≤ if time < s then s else time) then [0] else [] := by
  unfold toR outR W1 nowR clr clrOne dueN dueB ix
  generalize (if time < s then s else time) = t
  cases told <;> by_cases h : at_ ≤ t <;> simp [h, srt, List.range_succ, List.filter]
set_option maxRecDepth 10000 in
theorem far_vc :
  ∀ x0 : Int,
  ∀ x1 : Int,
  ∀ x2 : List Int,
  ((((True) ∧
      (Fits (Tp.i IntKind.u64) x0)) ∧
     (Fits (Tp.i IntKind.u64) x1)) ∧
    (Fits (Tp.sl (Tp.i IntKind.u64)) x2)) →
  (True) ∧
  (True →
   ((litCmp BinOp.gtr (↑(List.length x2) : Int) (40 : Int) = true) →
    (True) ∧
    (True)) ∧
   ((litCmp BinOp.gtr (↑(List.length x2) : Int) (40 : Int) = false) →
    (u64ok x0) ∧
    (True →
     ((IsW x0 (0 : Int) (0 : Int) (0 : Int) (0 : Int) [((-1 : Int), (-1 : Int), (-1 : Int))] (List.replicate (258 : Nat) ((-1 : Int), (-1 : Int), (0 : Int))) [((0 : Int), (0 : Int))]) ∧
      ((u64ok x1) ∧
       (u64ok (0 : Int)))) ∧
     (∀ x3 : Int,
      ∀ x4 : Int,
      ∀ x5 : Int,
      ∀ x6 : Int,
      ∀ x7 : List (Int × Int × Int),
      ∀ x8 : List (Int × Int × Int),
      ∀ x9 : List (Int × Int),
      ∀ x10 : Bool,
      (SetPost (0 : Int) x1 (0 : Int) x0 (0 : Int) (0 : Int) (0 : Int) (0 : Int) [((-1 : Int), (-1 : Int), (-1 : Int))] (List.replicate (258 : Nat) ((-1 : Int), (-1 : Int), (0 : Int))) [((0 : Int), (0 : Int))] x3 x4 x5 x6 x7 x8 x9 x10) →
      (((!x10) = true) →
       (True) ∧
       (False)) ∧
      (((!x10) = false) →
       ∃ x11 : Int → Bool → Int → Int → Int → Int → Int → Int → List (Int × Int × Int) → List (Int × Int × Int) → Prop,
       ∃ x12 : Int → Bool → Int → Int → Int → Int → Int → Int → List (Int × Int × Int) → List (Int × Int × Int) → Nat,
       (x11 (0 : Int) false x0 x0 x3 x4 x5 x6 x7 x8) ∧
       (∀ x13 : Int,
        ∀ x14 : Bool,
        ∀ x15 : Int,
        ∀ x16 : Int,
        ∀ x17 : Int,
        ∀ x18 : Int,
        ∀ x19 : Int,
        ∀ x20 : Int,
        ∀ x21 : List (Int × Int × Int),
        ∀ x22 : List (Int × Int × Int),
        (x11 x13 x14 x15 x16 x17 x18 x19 x20 x21 x22) →
        ((litCmp BinOp.lss x13 (↑(List.length x2) : Int) = true) →
         (((0 : Int) ≤ x13) ∧
          (x13 < (↑(List.length x2) : Int))) ∧
         (∀ x23 : Int,
          (x23 = ix x2 x13) →
          ∀ x24 : Int,
          (x24 = if x15 < x23 then x23 else x15) →
          ((u64ok x23) ∧
           (∃ x25 : Wh,
            RepW x25 x16 x17 x18 x19 x20 x21 x22 x9)) ∧
          (∀ x26 : Int,
           ∀ x27 : Int,
           ∀ x28 : Int,
           ∀ x29 : Int,
           ∀ x30 : Int,
           ∀ x31 : List (Int × Int × Int),
           ∀ x32 : List (Int × Int × Int),
           ∀ x33 : List Int,
           (ToPost x23 x16 x17 x18 x19 x20 x21 x22 x9 x26 x27 x28 x29 x30 x31 x32 x33) →
           ((litCmp BinOp.leq x1 x24 = true) →
            (((!litCmp BinOp.eql (↑(List.length x33) : Int) (1 : Int) == !x14) = true) →
             (True) ∧
             (False)) ∧
            (((!litCmp BinOp.eql (↑(List.length x33) : Int) (1 : Int) == !x14) = false) →
             (True) ∧
             (True →
              ((litCmp BinOp.neq x26 x24 = true) →
               (True) ∧
               (False)) ∧
              ((litCmp BinOp.neq x26 x24 = false) →
               ((x14 = true) →
                (IsW x26 x27 x28 x29 x30 x31 x32 x9) ∧
                (True →
                 (((Prod.snd (Prod.snd (atC x31 x9 (0 : Int))) == true) = true) →
                  (True) ∧
                  (False)) ∧
                 (((Prod.snd (Prod.snd (atC x31 x9 (0 : Int))) == true) = false) →
                  ∀ x34 : Int,
                  (x34 = litArith BinOp.add IntKind.i64 x13 (1 : Int)) →
                  (x1 = x1) ∧
                  ((x2 = x2) ∧
                   (((↑(List.length x2) : Int) = (↑(List.length x2) : Int)) ∧
                    (((↑(List.length x2) : Int) = (↑(List.length x2) : Int)) ∧
                     ((x9 = x9) ∧
                      (((↑(List.length x9) : Int) = (↑(List.length x9) : Int)) ∧
                       ((x11 x34 true x24 x26 x27 x28 x29 x30 x31 x32) ∧
                        (x12 x34 true x24 x26 x27 x28 x29 x30 x31 x32 < x12 x13 x14 x15 x16 x17 x18 x19 x20 x21 x22)))))))))) ∧
               ((x14 = false) →
                (IsW x26 x27 x28 x29 x30 x31 x32 x9) ∧
                (True →
                 (((Prod.snd (Prod.snd (atC x31 x9 (0 : Int))) == litCmp BinOp.leq x1 x24) = true) →
                  (True) ∧
                  (False)) ∧
                 (((Prod.snd (Prod.snd (atC x31 x9 (0 : Int))) == litCmp BinOp.leq x1 x24) = false) →
                  ∀ x35 : Int,
                  (x35 = litArith BinOp.add IntKind.i64 x13 (1 : Int)) →
                  (x1 = x1) ∧
                  ((x2 = x2) ∧
                   (((↑(List.length x2) : Int) = (↑(List.length x2) : Int)) ∧
                    (((↑(List.length x2) : Int) = (↑(List.length x2) : Int)) ∧
                     ((x9 = x9) ∧
                      (((↑(List.length x9) : Int) = (↑(List.length x9) : Int)) ∧
                       ((x11 x35 (litCmp BinOp.leq x1 x24) x24 x26 x27 x28 x29 x30 x31 x32) ∧
                        (x12 x35 (litCmp BinOp.leq x1 x24) x24 x26 x27 x28 x29 x30 x31 x32 < x12 x13 x14 x15 x16 x17 x18 x19 x20 x21 x22)))))))))))))) ∧
           ((litCmp BinOp.leq x1 x24 = false) →
            (((!litCmp BinOp.eql (↑(List.length x33) : Int) (1 : Int) == false) = true) →
             (True) ∧
             (False)) ∧
            (((!litCmp BinOp.eql (↑(List.length x33) : Int) (1 : Int) == false) = false) →
             (True) ∧
             (True →
              ((litCmp BinOp.neq x26 x24 = true) →
               (True) ∧
               (False)) ∧
              ((litCmp BinOp.neq x26 x24 = false) →
               ((x14 = true) →
                (IsW x26 x27 x28 x29 x30 x31 x32 x9) ∧
                (True →
                 (((Prod.snd (Prod.snd (atC x31 x9 (0 : Int))) == true) = true) →
                  (True) ∧
                  (False)) ∧
                 (((Prod.snd (Prod.snd (atC x31 x9 (0 : Int))) == true) = false) →
                  ∀ x36 : Int,
                  (x36 = litArith BinOp.add IntKind.i64 x13 (1 : Int)) →
                  (x1 = x1) ∧
                  ((x2 = x2) ∧
                   (((↑(List.length x2) : Int) = (↑(List.length x2) : Int)) ∧
                    (((↑(List.length x2) : Int) = (↑(List.length x2) : Int)) ∧
                     ((x9 = x9) ∧
                      (((↑(List.length x9) : Int) = (↑(List.length x9) : Int)) ∧
                       ((x11 x36 true x24 x26 x27 x28 x29 x30 x31 x32) ∧
                        (x12 x36 true x24 x26 x27 x28 x29 x30 x31 x32 < x12 x13 x14 x15 x16 x17 x18 x19 x20 x21 x22)))))))))) ∧
               ((x14 = false) →
                (IsW x26 x27 x28 x29 x30 x31 x32 x9) ∧
                (True →
                 (((Prod.snd (Prod.snd (atC x31 x9 (0 : Int))) == litCmp BinOp.leq x1 x24) = true) →
                  (True) ∧
                  (False)) ∧
                 (((Prod.snd (Prod.snd (atC x31 x9 (0 : Int))) == litCmp BinOp.leq x1 x24) = false) →
                  ∀ x37 : Int,
                  (x37 = litArith BinOp.add IntKind.i64 x13 (1 : Int)) →
                  (x1 = x1) ∧
                  ((x2 = x2) ∧
                   (((↑(List.length x2) : Int) = (↑(List.length x2) : Int)) ∧
                    (((↑(List.length x2) : Int) = (↑(List.length x2) : Int)) ∧
                     ((x9 = x9) ∧
                      (((↑(List.length x9) : Int) = (↑(List.length x9) : Int)) ∧
                       ((x11 x37 (litCmp BinOp.leq x1 x24) x24 x26 x27 x28 x29 x30 x31 x32) ∧
                        (x12 x37 (litCmp BinOp.leq x1 x24) x24 x26 x27 x28 x29 x30 x31 x32 < x12 x13 x14 x15 x16 x17 x18 x19 x20 x21 x22))))))))))))))))) ∧
        ((litCmp BinOp.lss x13 (↑(List.length x2) : Int) = false) →
         ((u64ok (18446744073709551615 : Int)) ∧
          (∃ x38 : Wh,
           RepW x38 x16 x17 x18 x19 x20 x21 x22 x9)) ∧
         (∀ x39 : Int,
          ∀ x40 : Int,
          ∀ x41 : Int,
          ∀ x42 : Int,
          ∀ x43 : Int,
          ∀ x44 : List (Int × Int × Int),
          ∀ x45 : List (Int × Int × Int),
          ∀ x46 : List Int,
          (ToPost (18446744073709551615 : Int) x16 x17 x18 x19 x20 x21 x22 x9 x39 x40 x41 x42 x43 x44 x45 x46) →
          (((litCmp BinOp.eql (↑(List.length x46) : Int) (1 : Int) == !x14) = true) →
           (IsW x39 x40 x41 x42 x43 x44 x45 x9) ∧
           (True →
            (True) ∧
            ((litCmp BinOp.eql (lenW x40 x41 x42 x43 x45) (0 : Int) = true) ∧
             (True)))) ∧
          (((litCmp BinOp.eql (↑(List.length x46) : Int) (1 : Int) == !x14) = false) →
           (True) ∧
           (False)))))))))) := by
  rintro now at_ steps ⟨⟨⟨_, hn⟩, ha⟩, hs⟩
  have hn := u64_of hn
  have ha := u64_of ha
  simp only [gtrT, gtrF, lssT, lssF, leqT, leqF, geqT, geqF, eqlT, eqlF, neqT, neqF, true_and, and_true, true_implies, implies_true, Bool.not_eq_true', Bool.not_eq_false', bne_iff_ne, ne_eq, not_true_eq_false, not_false_eq_true, Int.toNat_natCast, same_self, reduceCtorEq, false_implies, List.nil_append]
  intro hlen
  have hu : ∀ n : Int, 0 ≤ n ∧ n < 18446744073709551616 → u64ok n := fun n h => h
  have h0 : RepW ([(false, 0, 0)], now) now 0 0 0 0 [((-1 : Int), (-1 : Int), (-1 : Int))] (List.replicate (258 : Nat) ((-1 : Int), (-1 : Int), (0 : Int))) [((0 : Int), (0 : Int))] := RepW.new (k := 1) hn
  refine ⟨hn, ⟨h0.is, ha, hu _ (by omega)⟩, ?_⟩
  intro a0 a1 a2 a3 L0 E0 M b hp
  obtain ⟨h1, e⟩ := h0.set ha (hu _ (by omega)) hp
  clear h0 hp
  rw [show setR ([(false, 0, 0)], now) 0 at_ 0 = (W1 false at_ now, true) from rfl] at h1 e
  subst e
  refine ⟨fun q => by simp at q, fun _ => ?_⟩
  refine ⟨fun k told time e d0 d1 d2 d3 L E => 0 ≤ k ∧ k ≤ steps.length ∧ e = time ∧ RepW (W1 told at_ time) time d0 d1 d2 d3 L E M ∧ (told = true → at_ ≤ time), fun k _ _ _ _ _ _ _ _ _ => ((steps.length : Int) - k).toNat, ⟨Int.le_refl _, Int.natCast_nonneg _, rfl, h1, fun q => by cases q⟩, ?_⟩
  rintro k told tm0 time d0 d1 d2 d3 L E ⟨k0, k1, he0, h, ht⟩
  subst he0
  refine ⟨fun hk => ⟨⟨k0, hk⟩, ?_⟩, fun hk => ⟨⟨hu _ (by omega), _, h⟩, ?_⟩⟩
  · rintro s hs' t rfl
    have hsu : u64ok s := by
      rw [hs']
      exact u64_ix hs k0 hk
    refine ⟨⟨hsu, _, h⟩, ?_⟩
    intro e f0 f1 f2 f3 L2 E2 o hp
    obtain ⟨h2, ho⟩ := hp _ h
    rw [(W1_to told at_ time s).1] at h2
    rw [(W1_to told at_ time s).2] at ho
    have he := h2.nw
    have hat := h2.at_ 0
    generalize hT : (if time < s then s else time) = t at *
    have htt : time ≤ t := by rw [← hT]; split <;> omega
    have he : t = e := he
    subst he
    have hadd : litArith .add .i64 k 1 = k + 1 := addI_ (by omega) (by omega)
    have hon : (atC L2 M 0).2.2 = !(told || decide (at_ ≤ t)) := by
      rw [hat]
      unfold wantR isR W1 ix
      cases (told || decide (at_ ≤ t)) <;> rfl
    have hol : (o.length : Int) = if !told && decide (at_ ≤ t) then 1 else 0 := by rw [ho]; split <;> rfl
    rw [hon, hol]
    cases told with
    | true =>
      have hd := ht rfl
      have hd : at_ ≤ t := by omega
      simp only [hd, decide_true, Bool.or_true, litCmp] at h2 ⊢
      simp [litCmp, hadd, h2.is, hd]
      have hg : (0 ≤ k + 1 ∧ k + 1 ≤ (steps.length : Int) ∧ RepW (W1 true at_ t) t f0 f1 f2 f3 L2 E2 M) ∧ max ((steps.length : Int) - (k + 1)) 0 < (steps.length : Int) - k := ⟨⟨by omega, by omega, h2⟩, by omega⟩
      exact ⟨hg, fun _ => hg⟩
    | false =>
      by_cases hd : at_ ≤ t
      · simp only [hd, decide_true, Bool.or_true] at h2 ⊢
        simp [litCmp, hadd, h2.is, hd]
        have hg : (0 ≤ k + 1 ∧ k + 1 ≤ (steps.length : Int) ∧ RepW (W1 true at_ t) t f0 f1 f2 f3 L2 E2 M) ∧ max ((steps.length : Int) - (k + 1)) 0 < (steps.length : Int) - k := ⟨⟨by omega, by omega, h2⟩, by omega⟩
        exact hg
      · simp only [hd, decide_false, Bool.or_false] at h2 ⊢
        simp [litCmp, hadd, h2.is, hd]
        have hg : (0 ≤ k + 1 ∧ k + 1 ≤ (steps.length : Int) ∧ RepW (W1 false at_ t) t f0 f1 f2 f3 L2 E2 M) ∧ max ((steps.length : Int) - (k + 1)) 0 < (steps.length : Int) - k := ⟨⟨by omega, by omega, h2⟩, by omega⟩
        exact fun _ => hg
  · intro e f0 f1 f2 f3 L2 E2 o hp
    obtain ⟨h2, ho⟩ := hp _ h
    rw [(W1_to told at_ time _).1] at h2
    rw [(W1_to told at_ time _).2] at ho
    have hle := h2.len_eq
    have htm := h.is.now
    have hT : at_ ≤ (if time < 18446744073709551615 then 18446744073709551615 else time) := by
      have := ha.2
      split <;> omega
    rw [hle]
    have hol : (o.length : Int) = if !told then 1 else 0 := by rw [ho]; simp only [hT, decide_true, Bool.and_true]; split <;> rfl
    rw [hol]
    simp only [hT, decide_true, Bool.or_true]
    refine ⟨fun _ => ⟨h2.is, by simp [W1, lenR, litCmp]⟩, ?_⟩
    cases told <;> simp [litCmp]
set_option maxRecDepth 10000 in
theorem far_ok : conFar.ok KK Try.prog 9 := by
  refine Con.of_vc ([(0, ⟨[], [(32, .d (.i .i64)), (8, .d .bo), (9, .d (.i .u64))], [(0, vW)], [0, 1], []⟩)]) ([]) TT_ok follows Try.func9 ?_ G39_ok (@toVC _ _ far_vc ?_)
  · kernel_rfl
  · kernel_rfl
noncomputable def G40 : List (FuncId × Con) := (9, conFar) :: G39
theorem G40_ok : GOK KK Try.prog G40 := GOK.cons (Callable.of Try.func9 (by kernel_rfl) (by kernel_rfl)) far_ok G39_ok
end Go.Proofs.Ytlkmdighjgpdlaa
/- The laws of package wheel: WheelPlays. -/
namespace Go.Proofs.Ytlkmdighjgpdlaa
open Go Go.Fx
theorem wrapU_ok2 (x : Int) : u64ok (IntKind.wrap .u64 x) := by
  show u64ok (if (false && decide (x % 18446744073709551616 ≥ (2 ^ 63 : Int))) = true then x % 18446744073709551616 - 18446744073709551616 else x % 18446744073709551616)
  rw [Bool.false_and, if_neg (by simp)]
  unfold u64ok
  omega
set_option maxRecDepth 10000 in
theorem plays_vc :
  ∀ x0 : Int,
  ∀ x1 : Int,
  ∀ x2 : List (Int × Int × Int × Int × Bool),
  ∀ x3 : Int,
  (((((True) ∧
       (Fits (Tp.i IntKind.i64) x0)) ∧
      (Fits (Tp.i IntKind.u64) x1)) ∧
     (Fits (Tp.sl (Tp.p (Tp.i IntKind.i64) (Tp.p (Tp.i IntKind.i64) (Tp.p (Tp.i IntKind.u64) (Tp.p (Tp.i IntKind.u64) Tp.bo))))) x2)) ∧
    (Fits (Tp.i IntKind.i64) x3)) →
  (True) ∧
  (True →
   ((litCmp BinOp.gtr (↑(List.length x2) : Int) (40 : Int) = true) →
    (True) ∧
    (True)) ∧
   ((litCmp BinOp.gtr (↑(List.length x2) : Int) (40 : Int) = false) →
    ((litCmp BinOp.gtr x0 (64 : Int) = true) →
     (True) ∧
     (True)) ∧
    ((litCmp BinOp.gtr x0 (64 : Int) = false) →
     (u64ok x1) ∧
     (True →
      (True) ∧
      (True →
       ∀ x4 : List (Bool × Int × Int) × Int,
       (x4 = (List.replicate (cut4096 x0) (false, (0 : Int), (0 : Int)), x1)) →
       ∃ x5 : Int → Int → Int → Int → Int → Int → List (Bool × Int × Int) × Int → List (Int × Int × Int) → List (Int × Int × Int) → List (Int × Int) → Prop,
       ∃ x6 : Int → Int → Int → Int → Int → Int → List (Bool × Int × Int) × Int → List (Int × Int × Int) → List (Int × Int × Int) → List (Int × Int) → Nat,
       (x5 (0 : Int) x1 (0 : Int) (0 : Int) (0 : Int) (0 : Int) x4 (List.replicate (cut4096 x0) ((-1 : Int), (-1 : Int), (-1 : Int))) (List.replicate (258 : Nat) ((-1 : Int), (-1 : Int), (0 : Int))) (List.replicate (cut4096 x0) ((0 : Int), (0 : Int)))) ∧
       (∀ x7 : Int,
        ∀ x8 : Int,
        ∀ x9 : Int,
        ∀ x10 : Int,
        ∀ x11 : Int,
        ∀ x12 : Int,
        ∀ x13 : List (Bool × Int × Int) × Int,
        ∀ x14 : List (Int × Int × Int),
        ∀ x15 : List (Int × Int × Int),
        ∀ x16 : List (Int × Int),
        (x5 x7 x8 x9 x10 x11 x12 x13 x14 x15 x16) →
        ((litCmp BinOp.lss x7 (↑(List.length x2) : Int) = true) →
         (((0 : Int) ≤ x7) ∧
          (x7 < (↑(List.length x2) : Int))) ∧
         (∀ x17 : Int × Int × Int × Int × Bool,
          (x17 = ix x2 x7) →
          ∀ x18 : Int × Int × Int × Int × Bool,
          (x18 = x17) →
          (True) ∧
          (True →
           ((litCmp BinOp.eql (Prod.fst x18) (0 : Int) = true) →
            (List.length (Prod.fst x13) ≤ (4096 : Nat)) ∧
            (True →
             ∀ x19 : List (Bool × Int × Int) × Int,
             (x19 = Prod.fst (setR x13 (Prod.fst (Prod.snd x18)) (whenL x18 (Prod.snd x13)) (Prod.fst (Prod.snd (Prod.snd (Prod.snd x18)))))) →
             ∀ x20 : List (Bool × Int × Int) × Int,
             (x20 = x19) →
             ((IsW x8 x9 x10 x11 x12 x14 x15 x16) ∧
              ((u64ok (whenL x18 (Prod.snd x13))) ∧
               (u64ok (Prod.fst (Prod.snd (Prod.snd (Prod.snd x18))))))) ∧
             (∀ x21 : Int,
              ∀ x22 : Int,
              ∀ x23 : Int,
              ∀ x24 : Int,
              ∀ x25 : List (Int × Int × Int),
              ∀ x26 : List (Int × Int × Int),
              ∀ x27 : List (Int × Int),
              ∀ x28 : Bool,
              (SetPost (Prod.fst (Prod.snd x18)) (whenL x18 (Prod.snd x13)) (Prod.fst (Prod.snd (Prod.snd (Prod.snd x18)))) x8 x9 x10 x11 x12 x14 x15 x16 x21 x22 x23 x24 x25 x26 x27 x28) →
              (((!x28 == Prod.snd (setR x13 (Prod.fst (Prod.snd x18)) (whenL x18 (Prod.snd x13)) (Prod.fst (Prod.snd (Prod.snd (Prod.snd x18)))))) = true) →
               (True) ∧
               (False)) ∧
              (((!x28 == Prod.snd (setR x13 (Prod.fst (Prod.snd x18)) (whenL x18 (Prod.snd x13)) (Prod.fst (Prod.snd (Prod.snd (Prod.snd x18)))))) = false) →
               ∃ x29 : Int → Prop,
               ∃ x30 : Int → Nat,
               (x29 (0 : Int)) ∧
               (∀ x31 : Int,
                (x29 x31) →
                ((litCmp BinOp.lss x31 (2 : Int) = true) →
                 (((0 : Int) ≤ x31) ∧
                  (x31 < (2 : Int))) ∧
                 (∀ x32 : Int,
                  (x32 = ix [x3, Prod.fst (Prod.snd x18)] x31) →
                  (IsW x8 x21 x22 x23 x24 x25 x26 x27) ∧
                  (True →
                   ∀ x33 : Bool × Int × Int,
                   (x33 = (false, (0 : Int), (0 : Int))) →
                   (True) ∧
                   (True →
                    ((isR x20 x32 = true) →
                     (((0 : Int) ≤ x32) ∧
                      (x32 < (↑(List.length (Prod.fst x20)) : Int))) ∧
                     (∀ x34 : Bool × Int × Int,
                      (x34 = ix (Prod.fst x20) x32) →
                      ∀ x35 : Bool × Int × Int,
                      (x35 = x34) →
                      (((!Prod.snd (Prod.snd (atC x25 x27 x32)) == Prod.fst x35) = true) →
                       (True) ∧
                       (False)) ∧
                      (((!Prod.snd (Prod.snd (atC x25 x27 x32)) == Prod.fst x35) = false) →
                       ((litCmp BinOp.neq (Prod.fst (atC x25 x27 x32)) (Prod.fst (Prod.snd x35)) = true) →
                        (True) ∧
                        (False)) ∧
                       ((litCmp BinOp.neq (Prod.fst (atC x25 x27 x32)) (Prod.fst (Prod.snd x35)) = false) →
                        ((litCmp BinOp.neq (Prod.fst (Prod.snd (atC x25 x27 x32))) (Prod.snd (Prod.snd x35)) = true) →
                         (True) ∧
                         (False)) ∧
                        ((litCmp BinOp.neq (Prod.fst (Prod.snd (atC x25 x27 x32))) (Prod.snd (Prod.snd x35)) = false) →
                         ∀ x36 : Int,
                         (x36 = litArith BinOp.add IntKind.i64 x31 (1 : Int)) →
                         (x3 = x3) ∧
                         ((whenL x18 (Prod.snd x13) = whenL x18 (Prod.snd x13)) ∧
                          ((Prod.snd (setR x13 (Prod.fst (Prod.snd x18)) (whenL x18 (Prod.snd x13)) (Prod.fst (Prod.snd (Prod.snd (Prod.snd x18))))) = Prod.snd (setR x13 (Prod.fst (Prod.snd x18)) (whenL x18 (Prod.snd x13)) (Prod.fst (Prod.snd (Prod.snd (Prod.snd x18)))))) ∧
                           ((x2 = x2) ∧
                            (((↑(List.length x2) : Int) = (↑(List.length x2) : Int)) ∧
                             (((↑(List.length x2) : Int) = (↑(List.length x2) : Int)) ∧
                              ((x7 = x7) ∧
                               ((litCmp BinOp.lss x7 (↑(List.length x2) : Int) = litCmp BinOp.lss x7 (↑(List.length x2) : Int)) ∧
                                ((x17 = x17) ∧
                                 ((x18 = x18) ∧
                                  ((Prod.snd x13 = Prod.snd x13) ∧
                                   ((whenL x18 (Prod.snd x13) = whenL x18 (Prod.snd x13)) ∧
                                    ((Prod.fst x18 = Prod.fst x18) ∧
                                     ((litCmp BinOp.eql (Prod.fst x18) (0 : Int) = litCmp BinOp.eql (Prod.fst x18) (0 : Int)) ∧
                                      ((litCmp BinOp.eql (Prod.fst x18) (0 : Int) = litCmp BinOp.eql (Prod.fst x18) (0 : Int)) ∧
                                       ((Prod.fst (setR x13 (Prod.fst (Prod.snd x18)) (whenL x18 (Prod.snd x13)) (Prod.fst (Prod.snd (Prod.snd (Prod.snd x18))))) = Prod.fst (setR x13 (Prod.fst (Prod.snd x18)) (whenL x18 (Prod.snd x13)) (Prod.fst (Prod.snd (Prod.snd (Prod.snd x18)))))) ∧
                                        ((Prod.snd (setR x13 (Prod.fst (Prod.snd x18)) (whenL x18 (Prod.snd x13)) (Prod.fst (Prod.snd (Prod.snd (Prod.snd x18))))) = Prod.snd (setR x13 (Prod.fst (Prod.snd x18)) (whenL x18 (Prod.snd x13)) (Prod.fst (Prod.snd (Prod.snd (Prod.snd x18)))))) ∧
                                         ((x13 = x13) ∧
                                          ((Prod.fst (Prod.snd x18) = Prod.fst (Prod.snd x18)) ∧
                                           ((whenL x18 (Prod.snd x13) = whenL x18 (Prod.snd x13)) ∧
                                            ((Prod.fst (Prod.snd (Prod.snd (Prod.snd x18))) = Prod.fst (Prod.snd (Prod.snd (Prod.snd x18)))) ∧
                                             ((Prod.fst (setR x13 (Prod.fst (Prod.snd x18)) (whenL x18 (Prod.snd x13)) (Prod.fst (Prod.snd (Prod.snd (Prod.snd x18))))) = Prod.fst (setR x13 (Prod.fst (Prod.snd x18)) (whenL x18 (Prod.snd x13)) (Prod.fst (Prod.snd (Prod.snd (Prod.snd x18)))))) ∧
                                              ((Prod.snd (setR x13 (Prod.fst (Prod.snd x18)) (whenL x18 (Prod.snd x13)) (Prod.fst (Prod.snd (Prod.snd (Prod.snd x18))))) = Prod.snd (setR x13 (Prod.fst (Prod.snd x18)) (whenL x18 (Prod.snd x13)) (Prod.fst (Prod.snd (Prod.snd (Prod.snd x18)))))) ∧
                                               ((Prod.fst (setR x13 (Prod.fst (Prod.snd x18)) (whenL x18 (Prod.snd x13)) (Prod.fst (Prod.snd (Prod.snd (Prod.snd x18))))) = Prod.fst (setR x13 (Prod.fst (Prod.snd x18)) (whenL x18 (Prod.snd x13)) (Prod.fst (Prod.snd (Prod.snd (Prod.snd x18)))))) ∧
                                                ((Prod.snd (setR x13 (Prod.fst (Prod.snd x18)) (whenL x18 (Prod.snd x13)) (Prod.fst (Prod.snd (Prod.snd (Prod.snd x18))))) = Prod.snd (setR x13 (Prod.fst (Prod.snd x18)) (whenL x18 (Prod.snd x13)) (Prod.fst (Prod.snd (Prod.snd (Prod.snd x18)))))) ∧
                                                 ((x19 = x19) ∧
                                                  ((Prod.fst (Prod.snd x18) = Prod.fst (Prod.snd x18)) ∧
                                                   ((whenL x18 (Prod.snd x13) = whenL x18 (Prod.snd x13)) ∧
                                                    ((Prod.fst (Prod.snd (Prod.snd (Prod.snd x18))) = Prod.fst (Prod.snd (Prod.snd (Prod.snd x18)))) ∧
                                                     ((x28 = x28) ∧
                                                      ((Prod.snd (setR x13 (Prod.fst (Prod.snd x18)) (whenL x18 (Prod.snd x13)) (Prod.fst (Prod.snd (Prod.snd (Prod.snd x18))))) = Prod.snd (setR x13 (Prod.fst (Prod.snd x18)) (whenL x18 (Prod.snd x13)) (Prod.fst (Prod.snd (Prod.snd (Prod.snd x18)))))) ∧
                                                       (((!x28 == Prod.snd (setR x13 (Prod.fst (Prod.snd x18)) (whenL x18 (Prod.snd x13)) (Prod.fst (Prod.snd (Prod.snd (Prod.snd x18)))))) = !x28 == Prod.snd (setR x13 (Prod.fst (Prod.snd x18)) (whenL x18 (Prod.snd x13)) (Prod.fst (Prod.snd (Prod.snd (Prod.snd x18)))))) ∧
                                                        ((x3 = x3) ∧
                                                         ((Prod.fst (Prod.snd x18) = Prod.fst (Prod.snd x18)) ∧
                                                          ((x8 = x8) ∧
                                                           ((x21 = x21) ∧
                                                            ((x22 = x22) ∧
                                                             ((x23 = x23) ∧
                                                              ((x24 = x24) ∧
                                                               ((x20 = x20) ∧
                                                                ((x18 = x18) ∧
                                                                 ((x19 = x19) ∧
                                                                  ((x25 = x25) ∧
                                                                   (((↑(List.length x25) : Int) = (↑(List.length x25) : Int)) ∧
                                                                    ((x26 = x26) ∧
                                                                     (((↑(List.length x26) : Int) = (↑(List.length x26) : Int)) ∧
                                                                      ((x27 = x27) ∧
                                                                       (((↑(List.length x27) : Int) = (↑(List.length x27) : Int)) ∧
                                                                        (([x3, Prod.fst (Prod.snd x18)] = [x3, Prod.fst (Prod.snd x18)]) ∧
                                                                         ((x29 x36) ∧
                                                                          (x30 x36 < x30 x31))))))))))))))))))))))))))))))))))))))))))))))))))))))) ∧
                    ((isR x20 x32 = false) →
                     (((!Prod.snd (Prod.snd (atC x25 x27 x32)) == Prod.fst x33) = true) →
                      (True) ∧
                      (False)) ∧
                     (((!Prod.snd (Prod.snd (atC x25 x27 x32)) == Prod.fst x33) = false) →
                      ((litCmp BinOp.neq (Prod.fst (atC x25 x27 x32)) (Prod.fst (Prod.snd x33)) = true) →
                       (True) ∧
                       (False)) ∧
                      ((litCmp BinOp.neq (Prod.fst (atC x25 x27 x32)) (Prod.fst (Prod.snd x33)) = false) →
                       ((litCmp BinOp.neq (Prod.fst (Prod.snd (atC x25 x27 x32))) (Prod.snd (Prod.snd x33)) = true) →
                        (True) ∧
                        (False)) ∧
                       ((litCmp BinOp.neq (Prod.fst (Prod.snd (atC x25 x27 x32))) (Prod.snd (Prod.snd x33)) = false) →
                        ∀ x37 : Int,
                        (x37 = litArith BinOp.add IntKind.i64 x31 (1 : Int)) →
                        (x3 = x3) ∧
                        ((whenL x18 (Prod.snd x13) = whenL x18 (Prod.snd x13)) ∧
                         ((Prod.snd (setR x13 (Prod.fst (Prod.snd x18)) (whenL x18 (Prod.snd x13)) (Prod.fst (Prod.snd (Prod.snd (Prod.snd x18))))) = Prod.snd (setR x13 (Prod.fst (Prod.snd x18)) (whenL x18 (Prod.snd x13)) (Prod.fst (Prod.snd (Prod.snd (Prod.snd x18)))))) ∧
                          ((x2 = x2) ∧
                           (((↑(List.length x2) : Int) = (↑(List.length x2) : Int)) ∧
                            (((↑(List.length x2) : Int) = (↑(List.length x2) : Int)) ∧
                             ((x7 = x7) ∧
                              ((litCmp BinOp.lss x7 (↑(List.length x2) : Int) = litCmp BinOp.lss x7 (↑(List.length x2) : Int)) ∧
                               ((x17 = x17) ∧
                                ((x18 = x18) ∧
                                 ((Prod.snd x13 = Prod.snd x13) ∧
                                  ((whenL x18 (Prod.snd x13) = whenL x18 (Prod.snd x13)) ∧
                                   ((Prod.fst x18 = Prod.fst x18) ∧
                                    ((litCmp BinOp.eql (Prod.fst x18) (0 : Int) = litCmp BinOp.eql (Prod.fst x18) (0 : Int)) ∧
                                     ((litCmp BinOp.eql (Prod.fst x18) (0 : Int) = litCmp BinOp.eql (Prod.fst x18) (0 : Int)) ∧
                                      ((Prod.fst (setR x13 (Prod.fst (Prod.snd x18)) (whenL x18 (Prod.snd x13)) (Prod.fst (Prod.snd (Prod.snd (Prod.snd x18))))) = Prod.fst (setR x13 (Prod.fst (Prod.snd x18)) (whenL x18 (Prod.snd x13)) (Prod.fst (Prod.snd (Prod.snd (Prod.snd x18)))))) ∧
                                       ((Prod.snd (setR x13 (Prod.fst (Prod.snd x18)) (whenL x18 (Prod.snd x13)) (Prod.fst (Prod.snd (Prod.snd (Prod.snd x18))))) = Prod.snd (setR x13 (Prod.fst (Prod.snd x18)) (whenL x18 (Prod.snd x13)) (Prod.fst (Prod.snd (Prod.snd (Prod.snd x18)))))) ∧
                                        ((x13 = x13) ∧
                                         ((Prod.fst (Prod.snd x18) = Prod.fst (Prod.snd x18)) ∧
                                          ((whenL x18 (Prod.snd x13) = whenL x18 (Prod.snd x13)) ∧
                                           ((Prod.fst (Prod.snd (Prod.snd (Prod.snd x18))) = Prod.fst (Prod.snd (Prod.snd (Prod.snd x18)))) ∧
                                            ((Prod.fst (setR x13 (Prod.fst (Prod.snd x18)) (whenL x18 (Prod.snd x13)) (Prod.fst (Prod.snd (Prod.snd (Prod.snd x18))))) = Prod.fst (setR x13 (Prod.fst (Prod.snd x18)) (whenL x18 (Prod.snd x13)) (Prod.fst (Prod.snd (Prod.snd (Prod.snd x18)))))) ∧
                                             ((Prod.snd (setR x13 (Prod.fst (Prod.snd x18)) (whenL x18 (Prod.snd x13)) (Prod.fst (Prod.snd (Prod.snd (Prod.snd x18))))) = Prod.snd (setR x13 (Prod.fst (Prod.snd x18)) (whenL x18 (Prod.snd x13)) (Prod.fst (Prod.snd (Prod.snd (Prod.snd x18)))))) ∧
                                              ((Prod.fst (setR x13 (Prod.fst (Prod.snd x18)) (whenL x18 (Prod.snd x13)) (Prod.fst (Prod.snd (Prod.snd (Prod.snd x18))))) = Prod.fst (setR x13 (Prod.fst (Prod.snd x18)) (whenL x18 (Prod.snd x13)) (Prod.fst (Prod.snd (Prod.snd (Prod.snd x18)))))) ∧
                                               ((Prod.snd (setR x13 (Prod.fst (Prod.snd x18)) (whenL x18 (Prod.snd x13)) (Prod.fst (Prod.snd (Prod.snd (Prod.snd x18))))) = Prod.snd (setR x13 (Prod.fst (Prod.snd x18)) (whenL x18 (Prod.snd x13)) (Prod.fst (Prod.snd (Prod.snd (Prod.snd x18)))))) ∧
                                                ((x19 = x19) ∧
                                                 ((Prod.fst (Prod.snd x18) = Prod.fst (Prod.snd x18)) ∧
                                                  ((whenL x18 (Prod.snd x13) = whenL x18 (Prod.snd x13)) ∧
                                                   ((Prod.fst (Prod.snd (Prod.snd (Prod.snd x18))) = Prod.fst (Prod.snd (Prod.snd (Prod.snd x18)))) ∧
                                                    ((x28 = x28) ∧
                                                     ((Prod.snd (setR x13 (Prod.fst (Prod.snd x18)) (whenL x18 (Prod.snd x13)) (Prod.fst (Prod.snd (Prod.snd (Prod.snd x18))))) = Prod.snd (setR x13 (Prod.fst (Prod.snd x18)) (whenL x18 (Prod.snd x13)) (Prod.fst (Prod.snd (Prod.snd (Prod.snd x18)))))) ∧
                                                      (((!x28 == Prod.snd (setR x13 (Prod.fst (Prod.snd x18)) (whenL x18 (Prod.snd x13)) (Prod.fst (Prod.snd (Prod.snd (Prod.snd x18)))))) = !x28 == Prod.snd (setR x13 (Prod.fst (Prod.snd x18)) (whenL x18 (Prod.snd x13)) (Prod.fst (Prod.snd (Prod.snd (Prod.snd x18)))))) ∧
                                                       ((x3 = x3) ∧
                                                        ((Prod.fst (Prod.snd x18) = Prod.fst (Prod.snd x18)) ∧
                                                         ((x8 = x8) ∧
                                                          ((x21 = x21) ∧
                                                           ((x22 = x22) ∧
                                                            ((x23 = x23) ∧
                                                             ((x24 = x24) ∧
                                                              ((x20 = x20) ∧
                                                               ((x18 = x18) ∧
                                                                ((x19 = x19) ∧
                                                                 ((x25 = x25) ∧
                                                                  (((↑(List.length x25) : Int) = (↑(List.length x25) : Int)) ∧
                                                                   ((x26 = x26) ∧
                                                                    (((↑(List.length x26) : Int) = (↑(List.length x26) : Int)) ∧
                                                                     ((x27 = x27) ∧
                                                                      (((↑(List.length x27) : Int) = (↑(List.length x27) : Int)) ∧
                                                                       (([x3, Prod.fst (Prod.snd x18)] = [x3, Prod.fst (Prod.snd x18)]) ∧
                                                                        ((x29 x37) ∧
                                                                         (x30 x37 < x30 x31)))))))))))))))))))))))))))))))))))))))))))))))))))))))))) ∧
                ((litCmp BinOp.lss x31 (2 : Int) = false) →
                 (IsW x8 x21 x22 x23 x24 x25 x26 x27) ∧
                 (True →
                  (List.length (Prod.fst x20) ≤ (4096 : Nat)) ∧
                  (True →
                   (True) ∧
                   (True →
                    ((litCmp BinOp.neq x8 (Prod.snd x20) = true) →
                     (True) ∧
                     (False)) ∧
                    ((litCmp BinOp.neq x8 (Prod.snd x20) = false) →
                     (IsW x8 x21 x22 x23 x24 x25 x26 x27) ∧
                     (True →
                      (List.length (Prod.fst x20) ≤ (4096 : Nat)) ∧
                      (True →
                       ((litCmp BinOp.neq (lenW x21 x22 x23 x24 x26) (lenR (Prod.fst x20)) = true) →
                        (True) ∧
                        (False)) ∧
                       ((litCmp BinOp.neq (lenW x21 x22 x23 x24 x26) (lenR (Prod.fst x20)) = false) →
                        ((litCmp BinOp.neq (Prod.fst (scan (fun (k : Int) => Prod.snd (onC x25 k)) (fun (k : Int) => Prod.fst (ix x27 k)) (List.length x27))) (Prod.fst (scan (fun (k : Int) => Prod.fst (ix (Prod.fst x20) k)) (fun (k : Int) => Prod.fst (Prod.snd (ix (Prod.fst x20) k))) (List.length (Prod.fst x20)))) = true) →
                         (True) ∧
                         (False)) ∧
                        ((litCmp BinOp.neq (Prod.fst (scan (fun (k : Int) => Prod.snd (onC x25 k)) (fun (k : Int) => Prod.fst (ix x27 k)) (List.length x27))) (Prod.fst (scan (fun (k : Int) => Prod.fst (ix (Prod.fst x20) k)) (fun (k : Int) => Prod.fst (Prod.snd (ix (Prod.fst x20) k))) (List.length (Prod.fst x20)))) = false) →
                         (((!Prod.snd (scan (fun (k : Int) => Prod.snd (onC x25 k)) (fun (k : Int) => Prod.fst (ix x27 k)) (List.length x27)) == Prod.snd (scan (fun (k : Int) => Prod.fst (ix (Prod.fst x20) k)) (fun (k : Int) => Prod.fst (Prod.snd (ix (Prod.fst x20) k))) (List.length (Prod.fst x20)))) = true) →
                          (True) ∧
                          (False)) ∧
                         (((!Prod.snd (scan (fun (k : Int) => Prod.snd (onC x25 k)) (fun (k : Int) => Prod.fst (ix x27 k)) (List.length x27)) == Prod.snd (scan (fun (k : Int) => Prod.fst (ix (Prod.fst x20) k)) (fun (k : Int) => Prod.fst (Prod.snd (ix (Prod.fst x20) k))) (List.length (Prod.fst x20)))) = false) →
                          ∀ x38 : Int,
                          (x38 = litArith BinOp.add IntKind.i64 x7 (1 : Int)) →
                          (x3 = x3) ∧
                          ((x2 = x2) ∧
                           (((↑(List.length x2) : Int) = (↑(List.length x2) : Int)) ∧
                            (((↑(List.length x2) : Int) = (↑(List.length x2) : Int)) ∧
                             ((x5 x38 x8 x21 x22 x23 x24 x20 x25 x26 x27) ∧
                              (x6 x38 x8 x21 x22 x23 x24 x20 x25 x26 x27 < x6 x7 x8 x9 x10 x11 x12 x13 x14 x15 x16)))))))))))))))))))) ∧
           ((litCmp BinOp.eql (Prod.fst x18) (0 : Int) = false) →
            ((litCmp BinOp.eql (Prod.fst x18) (1 : Int) = true) →
             (List.length (Prod.fst x13) ≤ (4096 : Nat)) ∧
             (True →
              ∀ x39 : List (Bool × Int × Int) × Int,
              (x39 = Prod.fst (unsetR x13 (Prod.fst (Prod.snd x18)))) →
              ∀ x40 : List (Bool × Int × Int) × Int,
              (x40 = x39) →
              (IsW x8 x9 x10 x11 x12 x14 x15 x16) ∧
              (∀ x41 : Int,
               ∀ x42 : Int,
               ∀ x43 : Int,
               ∀ x44 : Int,
               ∀ x45 : List (Int × Int × Int),
               ∀ x46 : List (Int × Int × Int),
               ∀ x47 : Bool,
               (UnsetPost (Prod.fst (Prod.snd x18)) x9 x10 x11 x12 x14 x15 x41 x42 x43 x44 x45 x46 x47) →
               (((!x47 == Prod.snd (unsetR x13 (Prod.fst (Prod.snd x18)))) = true) →
                (True) ∧
                (False)) ∧
               (((!x47 == Prod.snd (unsetR x13 (Prod.fst (Prod.snd x18)))) = false) →
                ∃ x48 : Int → Prop,
                ∃ x49 : Int → Nat,
                (x48 (0 : Int)) ∧
                (∀ x50 : Int,
                 (x48 x50) →
                 ((litCmp BinOp.lss x50 (2 : Int) = true) →
                  (((0 : Int) ≤ x50) ∧
                   (x50 < (2 : Int))) ∧
                  (∀ x51 : Int,
                   (x51 = ix [x3, Prod.fst (Prod.snd x18)] x50) →
                   (IsW x8 x41 x42 x43 x44 x45 x46 x16) ∧
                   (True →
                    ∀ x52 : Bool × Int × Int,
                    (x52 = (false, (0 : Int), (0 : Int))) →
                    (True) ∧
                    (True →
                     ((isR x40 x51 = true) →
                      (((0 : Int) ≤ x51) ∧
                       (x51 < (↑(List.length (Prod.fst x40)) : Int))) ∧
                      (∀ x53 : Bool × Int × Int,
                       (x53 = ix (Prod.fst x40) x51) →
                       ∀ x54 : Bool × Int × Int,
                       (x54 = x53) →
                       (((!Prod.snd (Prod.snd (atC x45 x16 x51)) == Prod.fst x54) = true) →
                        (True) ∧
                        (False)) ∧
                       (((!Prod.snd (Prod.snd (atC x45 x16 x51)) == Prod.fst x54) = false) →
                        ((litCmp BinOp.neq (Prod.fst (atC x45 x16 x51)) (Prod.fst (Prod.snd x54)) = true) →
                         (True) ∧
                         (False)) ∧
                        ((litCmp BinOp.neq (Prod.fst (atC x45 x16 x51)) (Prod.fst (Prod.snd x54)) = false) →
                         ((litCmp BinOp.neq (Prod.fst (Prod.snd (atC x45 x16 x51))) (Prod.snd (Prod.snd x54)) = true) →
                          (True) ∧
                          (False)) ∧
                         ((litCmp BinOp.neq (Prod.fst (Prod.snd (atC x45 x16 x51))) (Prod.snd (Prod.snd x54)) = false) →
                          ∀ x55 : Int,
                          (x55 = litArith BinOp.add IntKind.i64 x50 (1 : Int)) →
                          (x3 = x3) ∧
                          ((whenL x18 (Prod.snd x13) = whenL x18 (Prod.snd x13)) ∧
                           ((Prod.snd (unsetR x13 (Prod.fst (Prod.snd x18))) = Prod.snd (unsetR x13 (Prod.fst (Prod.snd x18)))) ∧
                            ((x2 = x2) ∧
                             (((↑(List.length x2) : Int) = (↑(List.length x2) : Int)) ∧
                              (((↑(List.length x2) : Int) = (↑(List.length x2) : Int)) ∧
                               ((x7 = x7) ∧
                                ((litCmp BinOp.lss x7 (↑(List.length x2) : Int) = litCmp BinOp.lss x7 (↑(List.length x2) : Int)) ∧
                                 ((x17 = x17) ∧
                                  ((x18 = x18) ∧
                                   ((Prod.snd x13 = Prod.snd x13) ∧
                                    ((whenL x18 (Prod.snd x13) = whenL x18 (Prod.snd x13)) ∧
                                     ((Prod.fst x18 = Prod.fst x18) ∧
                                      ((litCmp BinOp.eql (Prod.fst x18) (0 : Int) = litCmp BinOp.eql (Prod.fst x18) (0 : Int)) ∧
                                       ((litCmp BinOp.eql (Prod.fst x18) (0 : Int) = litCmp BinOp.eql (Prod.fst x18) (0 : Int)) ∧
                                        ((litCmp BinOp.eql (Prod.fst x18) (1 : Int) = litCmp BinOp.eql (Prod.fst x18) (1 : Int)) ∧
                                         ((litCmp BinOp.eql (Prod.fst x18) (1 : Int) = litCmp BinOp.eql (Prod.fst x18) (1 : Int)) ∧
                                          ((Prod.fst (unsetR x13 (Prod.fst (Prod.snd x18))) = Prod.fst (unsetR x13 (Prod.fst (Prod.snd x18)))) ∧
                                           ((Prod.snd (unsetR x13 (Prod.fst (Prod.snd x18))) = Prod.snd (unsetR x13 (Prod.fst (Prod.snd x18)))) ∧
                                            ((x13 = x13) ∧
                                             ((Prod.fst (Prod.snd x18) = Prod.fst (Prod.snd x18)) ∧
                                              ((Prod.fst (unsetR x13 (Prod.fst (Prod.snd x18))) = Prod.fst (unsetR x13 (Prod.fst (Prod.snd x18)))) ∧
                                               ((Prod.snd (unsetR x13 (Prod.fst (Prod.snd x18))) = Prod.snd (unsetR x13 (Prod.fst (Prod.snd x18)))) ∧
                                                ((Prod.fst (unsetR x13 (Prod.fst (Prod.snd x18))) = Prod.fst (unsetR x13 (Prod.fst (Prod.snd x18)))) ∧
                                                 ((Prod.snd (unsetR x13 (Prod.fst (Prod.snd x18))) = Prod.snd (unsetR x13 (Prod.fst (Prod.snd x18)))) ∧
                                                  ((x39 = x39) ∧
                                                   ((Prod.fst (Prod.snd x18) = Prod.fst (Prod.snd x18)) ∧
                                                    ((x47 = x47) ∧
                                                     ((Prod.snd (unsetR x13 (Prod.fst (Prod.snd x18))) = Prod.snd (unsetR x13 (Prod.fst (Prod.snd x18)))) ∧
                                                      (((!x47 == Prod.snd (unsetR x13 (Prod.fst (Prod.snd x18)))) = !x47 == Prod.snd (unsetR x13 (Prod.fst (Prod.snd x18)))) ∧
                                                       ((x3 = x3) ∧
                                                        ((Prod.fst (Prod.snd x18) = Prod.fst (Prod.snd x18)) ∧
                                                         ((x8 = x8) ∧
                                                          ((x41 = x41) ∧
                                                           ((x42 = x42) ∧
                                                            ((x43 = x43) ∧
                                                             ((x44 = x44) ∧
                                                              ((x40 = x40) ∧
                                                               ((x18 = x18) ∧
                                                                ((x39 = x39) ∧
                                                                 ((x45 = x45) ∧
                                                                  (((↑(List.length x45) : Int) = (↑(List.length x45) : Int)) ∧
                                                                   ((x46 = x46) ∧
                                                                    (((↑(List.length x46) : Int) = (↑(List.length x46) : Int)) ∧
                                                                     ((x16 = x16) ∧
                                                                      (((↑(List.length x16) : Int) = (↑(List.length x16) : Int)) ∧
                                                                       (([x3, Prod.fst (Prod.snd x18)] = [x3, Prod.fst (Prod.snd x18)]) ∧
                                                                        ((x48 x55) ∧
                                                                         (x49 x55 < x49 x50))))))))))))))))))))))))))))))))))))))))))))))))))))) ∧
                     ((isR x40 x51 = false) →
                      (((!Prod.snd (Prod.snd (atC x45 x16 x51)) == Prod.fst x52) = true) →
                       (True) ∧
                       (False)) ∧
                      (((!Prod.snd (Prod.snd (atC x45 x16 x51)) == Prod.fst x52) = false) →
                       ((litCmp BinOp.neq (Prod.fst (atC x45 x16 x51)) (Prod.fst (Prod.snd x52)) = true) →
                        (True) ∧
                        (False)) ∧
                       ((litCmp BinOp.neq (Prod.fst (atC x45 x16 x51)) (Prod.fst (Prod.snd x52)) = false) →
                        ((litCmp BinOp.neq (Prod.fst (Prod.snd (atC x45 x16 x51))) (Prod.snd (Prod.snd x52)) = true) →
                         (True) ∧
                         (False)) ∧
                        ((litCmp BinOp.neq (Prod.fst (Prod.snd (atC x45 x16 x51))) (Prod.snd (Prod.snd x52)) = false) →
                         ∀ x56 : Int,
                         (x56 = litArith BinOp.add IntKind.i64 x50 (1 : Int)) →
                         (x3 = x3) ∧
                         ((whenL x18 (Prod.snd x13) = whenL x18 (Prod.snd x13)) ∧
                          ((Prod.snd (unsetR x13 (Prod.fst (Prod.snd x18))) = Prod.snd (unsetR x13 (Prod.fst (Prod.snd x18)))) ∧
                           ((x2 = x2) ∧
                            (((↑(List.length x2) : Int) = (↑(List.length x2) : Int)) ∧
                             (((↑(List.length x2) : Int) = (↑(List.length x2) : Int)) ∧
                              ((x7 = x7) ∧
                               ((litCmp BinOp.lss x7 (↑(List.length x2) : Int) = litCmp BinOp.lss x7 (↑(List.length x2) : Int)) ∧
                                ((x17 = x17) ∧
                                 ((x18 = x18) ∧
                                  ((Prod.snd x13 = Prod.snd x13) ∧
                                   ((whenL x18 (Prod.snd x13) = whenL x18 (Prod.snd x13)) ∧
                                    ((Prod.fst x18 = Prod.fst x18) ∧
                                     ((litCmp BinOp.eql (Prod.fst x18) (0 : Int) = litCmp BinOp.eql (Prod.fst x18) (0 : Int)) ∧
                                      ((litCmp BinOp.eql (Prod.fst x18) (0 : Int) = litCmp BinOp.eql (Prod.fst x18) (0 : Int)) ∧
                                       ((litCmp BinOp.eql (Prod.fst x18) (1 : Int) = litCmp BinOp.eql (Prod.fst x18) (1 : Int)) ∧
                                        ((litCmp BinOp.eql (Prod.fst x18) (1 : Int) = litCmp BinOp.eql (Prod.fst x18) (1 : Int)) ∧
                                         ((Prod.fst (unsetR x13 (Prod.fst (Prod.snd x18))) = Prod.fst (unsetR x13 (Prod.fst (Prod.snd x18)))) ∧
                                          ((Prod.snd (unsetR x13 (Prod.fst (Prod.snd x18))) = Prod.snd (unsetR x13 (Prod.fst (Prod.snd x18)))) ∧
                                           ((x13 = x13) ∧
                                            ((Prod.fst (Prod.snd x18) = Prod.fst (Prod.snd x18)) ∧
                                             ((Prod.fst (unsetR x13 (Prod.fst (Prod.snd x18))) = Prod.fst (unsetR x13 (Prod.fst (Prod.snd x18)))) ∧
                                              ((Prod.snd (unsetR x13 (Prod.fst (Prod.snd x18))) = Prod.snd (unsetR x13 (Prod.fst (Prod.snd x18)))) ∧
                                               ((Prod.fst (unsetR x13 (Prod.fst (Prod.snd x18))) = Prod.fst (unsetR x13 (Prod.fst (Prod.snd x18)))) ∧
                                                ((Prod.snd (unsetR x13 (Prod.fst (Prod.snd x18))) = Prod.snd (unsetR x13 (Prod.fst (Prod.snd x18)))) ∧
                                                 ((x39 = x39) ∧
                                                  ((Prod.fst (Prod.snd x18) = Prod.fst (Prod.snd x18)) ∧
                                                   ((x47 = x47) ∧
                                                    ((Prod.snd (unsetR x13 (Prod.fst (Prod.snd x18))) = Prod.snd (unsetR x13 (Prod.fst (Prod.snd x18)))) ∧
                                                     (((!x47 == Prod.snd (unsetR x13 (Prod.fst (Prod.snd x18)))) = !x47 == Prod.snd (unsetR x13 (Prod.fst (Prod.snd x18)))) ∧
                                                      ((x3 = x3) ∧
                                                       ((Prod.fst (Prod.snd x18) = Prod.fst (Prod.snd x18)) ∧
                                                        ((x8 = x8) ∧
                                                         ((x41 = x41) ∧
                                                          ((x42 = x42) ∧
                                                           ((x43 = x43) ∧
                                                            ((x44 = x44) ∧
                                                             ((x40 = x40) ∧
                                                              ((x18 = x18) ∧
                                                               ((x39 = x39) ∧
                                                                ((x45 = x45) ∧
                                                                 (((↑(List.length x45) : Int) = (↑(List.length x45) : Int)) ∧
                                                                  ((x46 = x46) ∧
                                                                   (((↑(List.length x46) : Int) = (↑(List.length x46) : Int)) ∧
                                                                    ((x16 = x16) ∧
                                                                     (((↑(List.length x16) : Int) = (↑(List.length x16) : Int)) ∧
                                                                      (([x3, Prod.fst (Prod.snd x18)] = [x3, Prod.fst (Prod.snd x18)]) ∧
                                                                       ((x48 x56) ∧
                                                                        (x49 x56 < x49 x50)))))))))))))))))))))))))))))))))))))))))))))))))))))))) ∧
                 ((litCmp BinOp.lss x50 (2 : Int) = false) →
                  (IsW x8 x41 x42 x43 x44 x45 x46 x16) ∧
                  (True →
                   (List.length (Prod.fst x40) ≤ (4096 : Nat)) ∧
                   (True →
                    (True) ∧
                    (True →
                     ((litCmp BinOp.neq x8 (Prod.snd x40) = true) →
                      (True) ∧
                      (False)) ∧
                     ((litCmp BinOp.neq x8 (Prod.snd x40) = false) →
                      (IsW x8 x41 x42 x43 x44 x45 x46 x16) ∧
                      (True →
                       (List.length (Prod.fst x40) ≤ (4096 : Nat)) ∧
                       (True →
                        ((litCmp BinOp.neq (lenW x41 x42 x43 x44 x46) (lenR (Prod.fst x40)) = true) →
                         (True) ∧
                         (False)) ∧
                        ((litCmp BinOp.neq (lenW x41 x42 x43 x44 x46) (lenR (Prod.fst x40)) = false) →
                         ((litCmp BinOp.neq (Prod.fst (scan (fun (k : Int) => Prod.snd (onC x45 k)) (fun (k : Int) => Prod.fst (ix x16 k)) (List.length x16))) (Prod.fst (scan (fun (k : Int) => Prod.fst (ix (Prod.fst x40) k)) (fun (k : Int) => Prod.fst (Prod.snd (ix (Prod.fst x40) k))) (List.length (Prod.fst x40)))) = true) →
                          (True) ∧
                          (False)) ∧
                         ((litCmp BinOp.neq (Prod.fst (scan (fun (k : Int) => Prod.snd (onC x45 k)) (fun (k : Int) => Prod.fst (ix x16 k)) (List.length x16))) (Prod.fst (scan (fun (k : Int) => Prod.fst (ix (Prod.fst x40) k)) (fun (k : Int) => Prod.fst (Prod.snd (ix (Prod.fst x40) k))) (List.length (Prod.fst x40)))) = false) →
                          (((!Prod.snd (scan (fun (k : Int) => Prod.snd (onC x45 k)) (fun (k : Int) => Prod.fst (ix x16 k)) (List.length x16)) == Prod.snd (scan (fun (k : Int) => Prod.fst (ix (Prod.fst x40) k)) (fun (k : Int) => Prod.fst (Prod.snd (ix (Prod.fst x40) k))) (List.length (Prod.fst x40)))) = true) →
                           (True) ∧
                           (False)) ∧
                          (((!Prod.snd (scan (fun (k : Int) => Prod.snd (onC x45 k)) (fun (k : Int) => Prod.fst (ix x16 k)) (List.length x16)) == Prod.snd (scan (fun (k : Int) => Prod.fst (ix (Prod.fst x40) k)) (fun (k : Int) => Prod.fst (Prod.snd (ix (Prod.fst x40) k))) (List.length (Prod.fst x40)))) = false) →
                           ∀ x57 : Int,
                           (x57 = litArith BinOp.add IntKind.i64 x7 (1 : Int)) →
                           (x3 = x3) ∧
                           ((x2 = x2) ∧
                            (((↑(List.length x2) : Int) = (↑(List.length x2) : Int)) ∧
                             (((↑(List.length x2) : Int) = (↑(List.length x2) : Int)) ∧
                              ((x5 x57 x8 x41 x42 x43 x44 x40 x45 x46 x16) ∧
                               (x6 x57 x8 x41 x42 x43 x44 x40 x45 x46 x16 < x6 x7 x8 x9 x10 x11 x12 x13 x14 x15 x16)))))))))))))))))))) ∧
            ((litCmp BinOp.eql (Prod.fst x18) (1 : Int) = false) →
             ((litCmp BinOp.eql (Prod.fst x18) (2 : Int) = true) →
              (List.length (Prod.fst x13) ≤ (4096 : Nat)) ∧
              (True →
               ∀ x58 : List (Bool × Int × Int) × Int,
               (x58 = toR x13 (whenL x18 (Prod.snd x13))) →
               ∀ x59 : List (Bool × Int × Int) × Int,
               (x59 = x58) →
               ((u64ok (whenL x18 (Prod.snd x13))) ∧
                (∃ x60 : Wh,
                 RepW x60 x8 x9 x10 x11 x12 x14 x15 x16)) ∧
               (∀ x61 : Int,
                ∀ x62 : Int,
                ∀ x63 : Int,
                ∀ x64 : Int,
                ∀ x65 : Int,
                ∀ x66 : List (Int × Int × Int),
                ∀ x67 : List (Int × Int × Int),
                ∀ x68 : List Int,
                (ToPost (whenL x18 (Prod.snd x13)) x8 x9 x10 x11 x12 x14 x15 x16 x61 x62 x63 x64 x65 x66 x67 x68) →
                (List.length x68 ≤ (1000000 : Nat)) ∧
                (True →
                 (((!same x68 (outR x13 (whenL x18 (Prod.snd x13)))) = true) →
                  (True) ∧
                  (False)) ∧
                 (((!same x68 (outR x13 (whenL x18 (Prod.snd x13)))) = false) →
                  ∃ x69 : Int → Prop,
                  ∃ x70 : Int → Nat,
                  (x69 (0 : Int)) ∧
                  (∀ x71 : Int,
                   (x69 x71) →
                   ((litCmp BinOp.lss x71 (2 : Int) = true) →
                    (((0 : Int) ≤ x71) ∧
                     (x71 < (2 : Int))) ∧
                    (∀ x72 : Int,
                     (x72 = ix [x3, Prod.fst (Prod.snd x18)] x71) →
                     (IsW x61 x62 x63 x64 x65 x66 x67 x16) ∧
                     (True →
                      ∀ x73 : Bool × Int × Int,
                      (x73 = (false, (0 : Int), (0 : Int))) →
                      (True) ∧
                      (True →
                       ((isR x59 x72 = true) →
                        (((0 : Int) ≤ x72) ∧
                         (x72 < (↑(List.length (Prod.fst x59)) : Int))) ∧
                        (∀ x74 : Bool × Int × Int,
                         (x74 = ix (Prod.fst x59) x72) →
                         ∀ x75 : Bool × Int × Int,
                         (x75 = x74) →
                         (((!Prod.snd (Prod.snd (atC x66 x16 x72)) == Prod.fst x75) = true) →
                          (True) ∧
                          (False)) ∧
                         (((!Prod.snd (Prod.snd (atC x66 x16 x72)) == Prod.fst x75) = false) →
                          ((litCmp BinOp.neq (Prod.fst (atC x66 x16 x72)) (Prod.fst (Prod.snd x75)) = true) →
                           (True) ∧
                           (False)) ∧
                          ((litCmp BinOp.neq (Prod.fst (atC x66 x16 x72)) (Prod.fst (Prod.snd x75)) = false) →
                           ((litCmp BinOp.neq (Prod.fst (Prod.snd (atC x66 x16 x72))) (Prod.snd (Prod.snd x75)) = true) →
                            (True) ∧
                            (False)) ∧
                           ((litCmp BinOp.neq (Prod.fst (Prod.snd (atC x66 x16 x72))) (Prod.snd (Prod.snd x75)) = false) →
                            ∀ x76 : Int,
                            (x76 = litArith BinOp.add IntKind.i64 x71 (1 : Int)) →
                            (x3 = x3) ∧
                            ((whenL x18 (Prod.snd x13) = whenL x18 (Prod.snd x13)) ∧
                             ((x2 = x2) ∧
                              (((↑(List.length x2) : Int) = (↑(List.length x2) : Int)) ∧
                               (((↑(List.length x2) : Int) = (↑(List.length x2) : Int)) ∧
                                ((x7 = x7) ∧
                                 ((litCmp BinOp.lss x7 (↑(List.length x2) : Int) = litCmp BinOp.lss x7 (↑(List.length x2) : Int)) ∧
                                  ((x17 = x17) ∧
                                   ((x18 = x18) ∧
                                    ((Prod.snd x13 = Prod.snd x13) ∧
                                     ((whenL x18 (Prod.snd x13) = whenL x18 (Prod.snd x13)) ∧
                                      ((Prod.fst x18 = Prod.fst x18) ∧
                                       ((litCmp BinOp.eql (Prod.fst x18) (0 : Int) = litCmp BinOp.eql (Prod.fst x18) (0 : Int)) ∧
                                        ((litCmp BinOp.eql (Prod.fst x18) (0 : Int) = litCmp BinOp.eql (Prod.fst x18) (0 : Int)) ∧
                                         ((litCmp BinOp.eql (Prod.fst x18) (1 : Int) = litCmp BinOp.eql (Prod.fst x18) (1 : Int)) ∧
                                          ((litCmp BinOp.eql (Prod.fst x18) (1 : Int) = litCmp BinOp.eql (Prod.fst x18) (1 : Int)) ∧
                                           ((litCmp BinOp.eql (Prod.fst x18) (2 : Int) = litCmp BinOp.eql (Prod.fst x18) (2 : Int)) ∧
                                            ((litCmp BinOp.eql (Prod.fst x18) (2 : Int) = litCmp BinOp.eql (Prod.fst x18) (2 : Int)) ∧
                                             ((toR x13 (whenL x18 (Prod.snd x13)) = toR x13 (whenL x18 (Prod.snd x13))) ∧
                                              ((x13 = x13) ∧
                                               ((whenL x18 (Prod.snd x13) = whenL x18 (Prod.snd x13)) ∧
                                                ((toR x13 (whenL x18 (Prod.snd x13)) = toR x13 (whenL x18 (Prod.snd x13))) ∧
                                                 ((toR x13 (whenL x18 (Prod.snd x13)) = toR x13 (whenL x18 (Prod.snd x13))) ∧
                                                  ((x58 = x58) ∧
                                                   ((whenL x18 (Prod.snd x13) = whenL x18 (Prod.snd x13)) ∧
                                                    ((same x68 (outR x13 (whenL x18 (Prod.snd x13))) = same x68 (outR x13 (whenL x18 (Prod.snd x13)))) ∧
                                                     (((!same x68 (outR x13 (whenL x18 (Prod.snd x13)))) = !same x68 (outR x13 (whenL x18 (Prod.snd x13)))) ∧
                                                      ((x3 = x3) ∧
                                                       ((Prod.fst (Prod.snd x18) = Prod.fst (Prod.snd x18)) ∧
                                                        ((x61 = x61) ∧
                                                         ((x62 = x62) ∧
                                                          ((x63 = x63) ∧
                                                           ((x64 = x64) ∧
                                                            ((x65 = x65) ∧
                                                             ((x59 = x59) ∧
                                                              ((x18 = x18) ∧
                                                               ((x58 = x58) ∧
                                                                ((x66 = x66) ∧
                                                                 (((↑(List.length x66) : Int) = (↑(List.length x66) : Int)) ∧
                                                                  ((x67 = x67) ∧
                                                                   (((↑(List.length x67) : Int) = (↑(List.length x67) : Int)) ∧
                                                                    ((x16 = x16) ∧
                                                                     (((↑(List.length x16) : Int) = (↑(List.length x16) : Int)) ∧
                                                                      ((outR x13 (whenL x18 (Prod.snd x13)) = outR x13 (whenL x18 (Prod.snd x13))) ∧
                                                                       (((↑(List.length (outR x13 (whenL x18 (Prod.snd x13)))) : Int) = (↑(List.length (outR x13 (whenL x18 (Prod.snd x13)))) : Int)) ∧
                                                                        ((x68 = x68) ∧
                                                                         (((↑(List.length x68) : Int) = (↑(List.length x68) : Int)) ∧
                                                                          (([x3, Prod.fst (Prod.snd x18)] = [x3, Prod.fst (Prod.snd x18)]) ∧
                                                                           ((x69 x76) ∧
                                                                            (x70 x76 < x70 x71)))))))))))))))))))))))))))))))))))))))))))))))))))))) ∧
                       ((isR x59 x72 = false) →
                        (((!Prod.snd (Prod.snd (atC x66 x16 x72)) == Prod.fst x73) = true) →
                         (True) ∧
                         (False)) ∧
                        (((!Prod.snd (Prod.snd (atC x66 x16 x72)) == Prod.fst x73) = false) →
                         ((litCmp BinOp.neq (Prod.fst (atC x66 x16 x72)) (Prod.fst (Prod.snd x73)) = true) →
                          (True) ∧
                          (False)) ∧
                         ((litCmp BinOp.neq (Prod.fst (atC x66 x16 x72)) (Prod.fst (Prod.snd x73)) = false) →
                          ((litCmp BinOp.neq (Prod.fst (Prod.snd (atC x66 x16 x72))) (Prod.snd (Prod.snd x73)) = true) →
                           (True) ∧
                           (False)) ∧
                          ((litCmp BinOp.neq (Prod.fst (Prod.snd (atC x66 x16 x72))) (Prod.snd (Prod.snd x73)) = false) →
                           ∀ x77 : Int,
                           (x77 = litArith BinOp.add IntKind.i64 x71 (1 : Int)) →
                           (x3 = x3) ∧
                           ((whenL x18 (Prod.snd x13) = whenL x18 (Prod.snd x13)) ∧
                            ((x2 = x2) ∧
                             (((↑(List.length x2) : Int) = (↑(List.length x2) : Int)) ∧
                              (((↑(List.length x2) : Int) = (↑(List.length x2) : Int)) ∧
                               ((x7 = x7) ∧
                                ((litCmp BinOp.lss x7 (↑(List.length x2) : Int) = litCmp BinOp.lss x7 (↑(List.length x2) : Int)) ∧
                                 ((x17 = x17) ∧
                                  ((x18 = x18) ∧
                                   ((Prod.snd x13 = Prod.snd x13) ∧
                                    ((whenL x18 (Prod.snd x13) = whenL x18 (Prod.snd x13)) ∧
                                     ((Prod.fst x18 = Prod.fst x18) ∧
                                      ((litCmp BinOp.eql (Prod.fst x18) (0 : Int) = litCmp BinOp.eql (Prod.fst x18) (0 : Int)) ∧
                                       ((litCmp BinOp.eql (Prod.fst x18) (0 : Int) = litCmp BinOp.eql (Prod.fst x18) (0 : Int)) ∧
                                        ((litCmp BinOp.eql (Prod.fst x18) (1 : Int) = litCmp BinOp.eql (Prod.fst x18) (1 : Int)) ∧
                                         ((litCmp BinOp.eql (Prod.fst x18) (1 : Int) = litCmp BinOp.eql (Prod.fst x18) (1 : Int)) ∧
                                          ((litCmp BinOp.eql (Prod.fst x18) (2 : Int) = litCmp BinOp.eql (Prod.fst x18) (2 : Int)) ∧
                                           ((litCmp BinOp.eql (Prod.fst x18) (2 : Int) = litCmp BinOp.eql (Prod.fst x18) (2 : Int)) ∧
                                            ((toR x13 (whenL x18 (Prod.snd x13)) = toR x13 (whenL x18 (Prod.snd x13))) ∧
                                             ((x13 = x13) ∧
                                              ((whenL x18 (Prod.snd x13) = whenL x18 (Prod.snd x13)) ∧
                                               ((toR x13 (whenL x18 (Prod.snd x13)) = toR x13 (whenL x18 (Prod.snd x13))) ∧
                                                ((toR x13 (whenL x18 (Prod.snd x13)) = toR x13 (whenL x18 (Prod.snd x13))) ∧
                                                 ((x58 = x58) ∧
                                                  ((whenL x18 (Prod.snd x13) = whenL x18 (Prod.snd x13)) ∧
                                                   ((same x68 (outR x13 (whenL x18 (Prod.snd x13))) = same x68 (outR x13 (whenL x18 (Prod.snd x13)))) ∧
                                                    (((!same x68 (outR x13 (whenL x18 (Prod.snd x13)))) = !same x68 (outR x13 (whenL x18 (Prod.snd x13)))) ∧
                                                     ((x3 = x3) ∧
                                                      ((Prod.fst (Prod.snd x18) = Prod.fst (Prod.snd x18)) ∧
                                                       ((x61 = x61) ∧
                                                        ((x62 = x62) ∧
                                                         ((x63 = x63) ∧
                                                          ((x64 = x64) ∧
                                                           ((x65 = x65) ∧
                                                            ((x59 = x59) ∧
                                                             ((x18 = x18) ∧
                                                              ((x58 = x58) ∧
                                                               ((x66 = x66) ∧
                                                                (((↑(List.length x66) : Int) = (↑(List.length x66) : Int)) ∧
                                                                 ((x67 = x67) ∧
                                                                  (((↑(List.length x67) : Int) = (↑(List.length x67) : Int)) ∧
                                                                   ((x16 = x16) ∧
                                                                    (((↑(List.length x16) : Int) = (↑(List.length x16) : Int)) ∧
                                                                     ((outR x13 (whenL x18 (Prod.snd x13)) = outR x13 (whenL x18 (Prod.snd x13))) ∧
                                                                      (((↑(List.length (outR x13 (whenL x18 (Prod.snd x13)))) : Int) = (↑(List.length (outR x13 (whenL x18 (Prod.snd x13)))) : Int)) ∧
                                                                       ((x68 = x68) ∧
                                                                        (((↑(List.length x68) : Int) = (↑(List.length x68) : Int)) ∧
                                                                         (([x3, Prod.fst (Prod.snd x18)] = [x3, Prod.fst (Prod.snd x18)]) ∧
                                                                          ((x69 x77) ∧
                                                                           (x70 x77 < x70 x71))))))))))))))))))))))))))))))))))))))))))))))))))))))))) ∧
                   ((litCmp BinOp.lss x71 (2 : Int) = false) →
                    (IsW x61 x62 x63 x64 x65 x66 x67 x16) ∧
                    (True →
                     (List.length (Prod.fst x59) ≤ (4096 : Nat)) ∧
                     (True →
                      (True) ∧
                      (True →
                       ((litCmp BinOp.neq x61 (Prod.snd x59) = true) →
                        (True) ∧
                        (False)) ∧
                       ((litCmp BinOp.neq x61 (Prod.snd x59) = false) →
                        (IsW x61 x62 x63 x64 x65 x66 x67 x16) ∧
                        (True →
                         (List.length (Prod.fst x59) ≤ (4096 : Nat)) ∧
                         (True →
                          ((litCmp BinOp.neq (lenW x62 x63 x64 x65 x67) (lenR (Prod.fst x59)) = true) →
                           (True) ∧
                           (False)) ∧
                          ((litCmp BinOp.neq (lenW x62 x63 x64 x65 x67) (lenR (Prod.fst x59)) = false) →
                           ((litCmp BinOp.neq (Prod.fst (scan (fun (k : Int) => Prod.snd (onC x66 k)) (fun (k : Int) => Prod.fst (ix x16 k)) (List.length x16))) (Prod.fst (scan (fun (k : Int) => Prod.fst (ix (Prod.fst x59) k)) (fun (k : Int) => Prod.fst (Prod.snd (ix (Prod.fst x59) k))) (List.length (Prod.fst x59)))) = true) →
                            (True) ∧
                            (False)) ∧
                           ((litCmp BinOp.neq (Prod.fst (scan (fun (k : Int) => Prod.snd (onC x66 k)) (fun (k : Int) => Prod.fst (ix x16 k)) (List.length x16))) (Prod.fst (scan (fun (k : Int) => Prod.fst (ix (Prod.fst x59) k)) (fun (k : Int) => Prod.fst (Prod.snd (ix (Prod.fst x59) k))) (List.length (Prod.fst x59)))) = false) →
                            (((!Prod.snd (scan (fun (k : Int) => Prod.snd (onC x66 k)) (fun (k : Int) => Prod.fst (ix x16 k)) (List.length x16)) == Prod.snd (scan (fun (k : Int) => Prod.fst (ix (Prod.fst x59) k)) (fun (k : Int) => Prod.fst (Prod.snd (ix (Prod.fst x59) k))) (List.length (Prod.fst x59)))) = true) →
                             (True) ∧
                             (False)) ∧
                            (((!Prod.snd (scan (fun (k : Int) => Prod.snd (onC x66 k)) (fun (k : Int) => Prod.fst (ix x16 k)) (List.length x16)) == Prod.snd (scan (fun (k : Int) => Prod.fst (ix (Prod.fst x59) k)) (fun (k : Int) => Prod.fst (Prod.snd (ix (Prod.fst x59) k))) (List.length (Prod.fst x59)))) = false) →
                             ∀ x78 : Int,
                             (x78 = litArith BinOp.add IntKind.i64 x7 (1 : Int)) →
                             (x3 = x3) ∧
                             ((x2 = x2) ∧
                              (((↑(List.length x2) : Int) = (↑(List.length x2) : Int)) ∧
                               (((↑(List.length x2) : Int) = (↑(List.length x2) : Int)) ∧
                                ((x5 x78 x61 x62 x63 x64 x65 x59 x66 x67 x16) ∧
                                 (x6 x78 x61 x62 x63 x64 x65 x59 x66 x67 x16 < x6 x7 x8 x9 x10 x11 x12 x13 x14 x15 x16))))))))))))))))))))) ∧
             ((litCmp BinOp.eql (Prod.fst x18) (2 : Int) = false) →
              ∃ x79 : Int → Prop,
              ∃ x80 : Int → Nat,
              (x79 (0 : Int)) ∧
              (∀ x81 : Int,
               (x79 x81) →
               ((litCmp BinOp.lss x81 (2 : Int) = true) →
                (((0 : Int) ≤ x81) ∧
                 (x81 < (2 : Int))) ∧
                (∀ x82 : Int,
                 (x82 = ix [x3, Prod.fst (Prod.snd x18)] x81) →
                 (IsW x8 x9 x10 x11 x12 x14 x15 x16) ∧
                 (True →
                  ∀ x83 : Bool × Int × Int,
                  (x83 = (false, (0 : Int), (0 : Int))) →
                  (True) ∧
                  (True →
                   ((isR x13 x82 = true) →
                    (((0 : Int) ≤ x82) ∧
                     (x82 < (↑(List.length (Prod.fst x13)) : Int))) ∧
                    (∀ x84 : Bool × Int × Int,
                     (x84 = ix (Prod.fst x13) x82) →
                     ∀ x85 : Bool × Int × Int,
                     (x85 = x84) →
                     (((!Prod.snd (Prod.snd (atC x14 x16 x82)) == Prod.fst x85) = true) →
                      (True) ∧
                      (False)) ∧
                     (((!Prod.snd (Prod.snd (atC x14 x16 x82)) == Prod.fst x85) = false) →
                      ((litCmp BinOp.neq (Prod.fst (atC x14 x16 x82)) (Prod.fst (Prod.snd x85)) = true) →
                       (True) ∧
                       (False)) ∧
                      ((litCmp BinOp.neq (Prod.fst (atC x14 x16 x82)) (Prod.fst (Prod.snd x85)) = false) →
                       ((litCmp BinOp.neq (Prod.fst (Prod.snd (atC x14 x16 x82))) (Prod.snd (Prod.snd x85)) = true) →
                        (True) ∧
                        (False)) ∧
                       ((litCmp BinOp.neq (Prod.fst (Prod.snd (atC x14 x16 x82))) (Prod.snd (Prod.snd x85)) = false) →
                        ∀ x86 : Int,
                        (x86 = litArith BinOp.add IntKind.i64 x81 (1 : Int)) →
                        (x3 = x3) ∧
                        ((whenL x18 (Prod.snd x13) = whenL x18 (Prod.snd x13)) ∧
                         ((x2 = x2) ∧
                          (((↑(List.length x2) : Int) = (↑(List.length x2) : Int)) ∧
                           (((↑(List.length x2) : Int) = (↑(List.length x2) : Int)) ∧
                            ((x7 = x7) ∧
                             ((litCmp BinOp.lss x7 (↑(List.length x2) : Int) = litCmp BinOp.lss x7 (↑(List.length x2) : Int)) ∧
                              ((x17 = x17) ∧
                               ((x18 = x18) ∧
                                ((Prod.snd x13 = Prod.snd x13) ∧
                                 ((whenL x18 (Prod.snd x13) = whenL x18 (Prod.snd x13)) ∧
                                  ((Prod.fst x18 = Prod.fst x18) ∧
                                   ((litCmp BinOp.eql (Prod.fst x18) (0 : Int) = litCmp BinOp.eql (Prod.fst x18) (0 : Int)) ∧
                                    ((litCmp BinOp.eql (Prod.fst x18) (0 : Int) = litCmp BinOp.eql (Prod.fst x18) (0 : Int)) ∧
                                     ((litCmp BinOp.eql (Prod.fst x18) (1 : Int) = litCmp BinOp.eql (Prod.fst x18) (1 : Int)) ∧
                                      ((litCmp BinOp.eql (Prod.fst x18) (1 : Int) = litCmp BinOp.eql (Prod.fst x18) (1 : Int)) ∧
                                       ((litCmp BinOp.eql (Prod.fst x18) (2 : Int) = litCmp BinOp.eql (Prod.fst x18) (2 : Int)) ∧
                                        ((litCmp BinOp.eql (Prod.fst x18) (2 : Int) = litCmp BinOp.eql (Prod.fst x18) (2 : Int)) ∧
                                         ((x3 = x3) ∧
                                          ((Prod.fst (Prod.snd x18) = Prod.fst (Prod.snd x18)) ∧
                                           ((x8 = x8) ∧
                                            ((x9 = x9) ∧
                                             ((x10 = x10) ∧
                                              ((x11 = x11) ∧
                                               ((x12 = x12) ∧
                                                ((x13 = x13) ∧
                                                 ((x18 = x18) ∧
                                                  ((x14 = x14) ∧
                                                   (((↑(List.length x14) : Int) = (↑(List.length x14) : Int)) ∧
                                                    ((x15 = x15) ∧
                                                     (((↑(List.length x15) : Int) = (↑(List.length x15) : Int)) ∧
                                                      ((x16 = x16) ∧
                                                       (((↑(List.length x16) : Int) = (↑(List.length x16) : Int)) ∧
                                                        (([x3, Prod.fst (Prod.snd x18)] = [x3, Prod.fst (Prod.snd x18)]) ∧
                                                         ((x79 x86) ∧
                                                          (x80 x86 < x80 x81)))))))))))))))))))))))))))))))))))))))) ∧
                   ((isR x13 x82 = false) →
                    (((!Prod.snd (Prod.snd (atC x14 x16 x82)) == Prod.fst x83) = true) →
                     (True) ∧
                     (False)) ∧
                    (((!Prod.snd (Prod.snd (atC x14 x16 x82)) == Prod.fst x83) = false) →
                     ((litCmp BinOp.neq (Prod.fst (atC x14 x16 x82)) (Prod.fst (Prod.snd x83)) = true) →
                      (True) ∧
                      (False)) ∧
                     ((litCmp BinOp.neq (Prod.fst (atC x14 x16 x82)) (Prod.fst (Prod.snd x83)) = false) →
                      ((litCmp BinOp.neq (Prod.fst (Prod.snd (atC x14 x16 x82))) (Prod.snd (Prod.snd x83)) = true) →
                       (True) ∧
                       (False)) ∧
                      ((litCmp BinOp.neq (Prod.fst (Prod.snd (atC x14 x16 x82))) (Prod.snd (Prod.snd x83)) = false) →
                       ∀ x87 : Int,
                       (x87 = litArith BinOp.add IntKind.i64 x81 (1 : Int)) →
                       (x3 = x3) ∧
                       ((whenL x18 (Prod.snd x13) = whenL x18 (Prod.snd x13)) ∧
                        ((x2 = x2) ∧
                         (((↑(List.length x2) : Int) = (↑(List.length x2) : Int)) ∧
                          (((↑(List.length x2) : Int) = (↑(List.length x2) : Int)) ∧
                           ((x7 = x7) ∧
                            ((litCmp BinOp.lss x7 (↑(List.length x2) : Int) = litCmp BinOp.lss x7 (↑(List.length x2) : Int)) ∧
                             ((x17 = x17) ∧
                              ((x18 = x18) ∧
                               ((Prod.snd x13 = Prod.snd x13) ∧
                                ((whenL x18 (Prod.snd x13) = whenL x18 (Prod.snd x13)) ∧
                                 ((Prod.fst x18 = Prod.fst x18) ∧
                                  ((litCmp BinOp.eql (Prod.fst x18) (0 : Int) = litCmp BinOp.eql (Prod.fst x18) (0 : Int)) ∧
                                   ((litCmp BinOp.eql (Prod.fst x18) (0 : Int) = litCmp BinOp.eql (Prod.fst x18) (0 : Int)) ∧
                                    ((litCmp BinOp.eql (Prod.fst x18) (1 : Int) = litCmp BinOp.eql (Prod.fst x18) (1 : Int)) ∧
                                     ((litCmp BinOp.eql (Prod.fst x18) (1 : Int) = litCmp BinOp.eql (Prod.fst x18) (1 : Int)) ∧
                                      ((litCmp BinOp.eql (Prod.fst x18) (2 : Int) = litCmp BinOp.eql (Prod.fst x18) (2 : Int)) ∧
                                       ((litCmp BinOp.eql (Prod.fst x18) (2 : Int) = litCmp BinOp.eql (Prod.fst x18) (2 : Int)) ∧
                                        ((x3 = x3) ∧
                                         ((Prod.fst (Prod.snd x18) = Prod.fst (Prod.snd x18)) ∧
                                          ((x8 = x8) ∧
                                           ((x9 = x9) ∧
                                            ((x10 = x10) ∧
                                             ((x11 = x11) ∧
                                              ((x12 = x12) ∧
                                               ((x13 = x13) ∧
                                                ((x18 = x18) ∧
                                                 ((x14 = x14) ∧
                                                  (((↑(List.length x14) : Int) = (↑(List.length x14) : Int)) ∧
                                                   ((x15 = x15) ∧
                                                    (((↑(List.length x15) : Int) = (↑(List.length x15) : Int)) ∧
                                                     ((x16 = x16) ∧
                                                      (((↑(List.length x16) : Int) = (↑(List.length x16) : Int)) ∧
                                                       (([x3, Prod.fst (Prod.snd x18)] = [x3, Prod.fst (Prod.snd x18)]) ∧
                                                        ((x79 x87) ∧
                                                         (x80 x87 < x80 x81))))))))))))))))))))))))))))))))))))))))))) ∧
               ((litCmp BinOp.lss x81 (2 : Int) = false) →
                (IsW x8 x9 x10 x11 x12 x14 x15 x16) ∧
                (True →
                 (List.length (Prod.fst x13) ≤ (4096 : Nat)) ∧
                 (True →
                  (True) ∧
                  (True →
                   ((litCmp BinOp.neq x8 (Prod.snd x13) = true) →
                    (True) ∧
                    (False)) ∧
                   ((litCmp BinOp.neq x8 (Prod.snd x13) = false) →
                    (IsW x8 x9 x10 x11 x12 x14 x15 x16) ∧
                    (True →
                     (List.length (Prod.fst x13) ≤ (4096 : Nat)) ∧
                     (True →
                      ((litCmp BinOp.neq (lenW x9 x10 x11 x12 x15) (lenR (Prod.fst x13)) = true) →
                       (True) ∧
                       (False)) ∧
                      ((litCmp BinOp.neq (lenW x9 x10 x11 x12 x15) (lenR (Prod.fst x13)) = false) →
                       ((litCmp BinOp.neq (Prod.fst (scan (fun (k : Int) => Prod.snd (onC x14 k)) (fun (k : Int) => Prod.fst (ix x16 k)) (List.length x16))) (Prod.fst (scan (fun (k : Int) => Prod.fst (ix (Prod.fst x13) k)) (fun (k : Int) => Prod.fst (Prod.snd (ix (Prod.fst x13) k))) (List.length (Prod.fst x13)))) = true) →
                        (True) ∧
                        (False)) ∧
                       ((litCmp BinOp.neq (Prod.fst (scan (fun (k : Int) => Prod.snd (onC x14 k)) (fun (k : Int) => Prod.fst (ix x16 k)) (List.length x16))) (Prod.fst (scan (fun (k : Int) => Prod.fst (ix (Prod.fst x13) k)) (fun (k : Int) => Prod.fst (Prod.snd (ix (Prod.fst x13) k))) (List.length (Prod.fst x13)))) = false) →
                        (((!Prod.snd (scan (fun (k : Int) => Prod.snd (onC x14 k)) (fun (k : Int) => Prod.fst (ix x16 k)) (List.length x16)) == Prod.snd (scan (fun (k : Int) => Prod.fst (ix (Prod.fst x13) k)) (fun (k : Int) => Prod.fst (Prod.snd (ix (Prod.fst x13) k))) (List.length (Prod.fst x13)))) = true) →
                         (True) ∧
                         (False)) ∧
                        (((!Prod.snd (scan (fun (k : Int) => Prod.snd (onC x14 k)) (fun (k : Int) => Prod.fst (ix x16 k)) (List.length x16)) == Prod.snd (scan (fun (k : Int) => Prod.fst (ix (Prod.fst x13) k)) (fun (k : Int) => Prod.fst (Prod.snd (ix (Prod.fst x13) k))) (List.length (Prod.fst x13)))) = false) →
                         ∀ x88 : Int,
                         (x88 = litArith BinOp.add IntKind.i64 x7 (1 : Int)) →
                         (x3 = x3) ∧
                         ((x2 = x2) ∧
                          (((↑(List.length x2) : Int) = (↑(List.length x2) : Int)) ∧
                           (((↑(List.length x2) : Int) = (↑(List.length x2) : Int)) ∧
                            ((x5 x88 x8 x9 x10 x11 x12 x13 x14 x15 x16) ∧
                             (x6 x88 x8 x9 x10 x11 x12 x13 x14 x15 x16 < x6 x7 x8 x9 x10 x11 x12 x13 x14 x15 x16)))))))))))))))))))))) ∧
        ((litCmp BinOp.lss x7 (↑(List.length x2) : Int) = false) →
         (True) ∧
         (True)))))))) := by
  rintro n now ops ask ⟨⟨⟨⟨_, _⟩, hn⟩, ho⟩, _⟩
  have hn := u64_of hn
  simp only [gtrT, gtrF, lssT, lssF, leqT, leqF, geqT, geqF, eqlT, eqlF, neqT, neqF, true_and, and_true, true_implies, implies_true, Bool.not_eq_true', Bool.not_eq_false', bne_iff_ne, ne_eq, not_true_eq_false, not_false_eq_true, Int.toNat_natCast, same_self, reduceCtorEq, false_implies, List.nil_append]
  intro hlen hl
  refine ⟨hn, ?_⟩
  rintro _ rfl
  refine ⟨fun k e d0 d1 d2 d3 x L E M => 0 ≤ k ∧ k ≤ ops.length ∧ RepW x e d0 d1 d2 d3 L E M, fun k _ _ _ _ _ _ _ _ _ => ((ops.length : Int) - k).toNat, ⟨Int.le_refl _, Int.natCast_nonneg _, RepW.new hn⟩, ?_⟩
  rintro k e d0 d1 d2 d3 x L E M ⟨k0, k1, h⟩
  intro hk
  refine ⟨⟨k0, hk⟩, ?_⟩
  rintro _ rfl o hoo
  have hadd : litArith .add .i64 k 1 = k + 1 := addI_ (by omega) (by omega)
  have hfo := ho.out.2 _ (ix_mem k0 hk)
  rw [← hoo] at hfo
  obtain ⟨_, _, hf1, hf2, _⟩ := hfo
  have ha : u64ok (whenL o x.2) := by
    unfold whenL
    split
    · exact wrapU_ok2 _
    · exact u64_wf hf1
  have htu : u64ok o.2.2.2.1 := u64_wf hf2
  refine ⟨fun h0 => ⟨h.small, ?_⟩, fun h0 => ⟨fun h1 => ⟨h.small, ?_⟩, fun h1 => ⟨fun h2 => ⟨h.small, ?_⟩, fun h2 => ?_⟩⟩⟩
  · rintro y hy y' rfl
    refine ⟨⟨h.is, ha, htu⟩, ?_⟩
    intro a0 a1 a2 a3 L1 E1 M1 b hp
    obtain ⟨h3, e3⟩ := h.set ha htu hp
    rw [← hy] at h3
    refine ⟨fun q => by rw [e3] at q; simp at q, fun _ => ?_⟩
    refine ⟨fun j => 0 ≤ j ∧ j ≤ 2, fun j => ((2 : Int) - j).toNat, ⟨Int.le_refl _, by omega⟩, ?_⟩
    rintro j ⟨j0, j1⟩
    refine ⟨fun hj => ⟨⟨j0, hj⟩, ?_⟩, fun hj => ?_⟩
    · rintro q hq
      refine ⟨h3.is, ?_⟩
      rintro want rfl
      have hat := h3.at_ q
      rw [hat]
      refine ⟨fun hi => ⟨?_, ?_⟩, fun hi => ?_⟩
      · simp only [isR, Bool.and_eq_true, decide_eq_true_eq] at hi
        exact ⟨hi.1, hi.2.1⟩
      · rintro v rfl v' rfl
        rw [show wantR y' q = ix y'.1 q from if_pos hi]
        have hg : ∀ z, z = litArith .add .i64 j 1 → (0 ≤ z ∧ z ≤ 2) ∧ ((2 : Int) - z).toNat < ((2 : Int) - j).toNat := by
          rintro _ rfl
          rw [addI_ (by omega) (by omega)]
          omega
        simpa using hg
      · rw [show wantR y' q = (false, 0, 0) from if_neg (by rw [hi]; simp)]
        have hg : ∀ z, z = litArith .add .i64 j 1 → (0 ≤ z ∧ z ≤ 2) ∧ ((2 : Int) - z).toNat < ((2 : Int) - j).toNat := by
          rintro _ rfl
          rw [addI_ (by omega) (by omega)]
          omega
        simpa using hg
    · refine ⟨h3.is, h3.small, fun q => absurd h3.nw.symm q, fun _ => ⟨h3.is, h3.small, fun q => absurd h3.len_eq q, fun _ => ?_⟩⟩
      rw [h3.first]
      refine ⟨fun q => absurd rfl q, fun _ => ⟨fun q => by simp at q, fun _ => ?_⟩⟩
      rintro _ rfl
      rw [hadd]
      exact ⟨⟨by omega, by omega, h3⟩, meas hk⟩
  · rintro y hy y' rfl
    refine ⟨h.is, ?_⟩
    intro a0 a1 a2 a3 L1 E1 b hp
    obtain ⟨h3, e3⟩ := h.unset hp
    rw [← hy] at h3
    refine ⟨fun q => by rw [e3] at q; simp at q, fun _ => ?_⟩
    refine ⟨fun j => 0 ≤ j ∧ j ≤ 2, fun j => ((2 : Int) - j).toNat, ⟨Int.le_refl _, by omega⟩, ?_⟩
    rintro j ⟨j0, j1⟩
    refine ⟨fun hj => ⟨⟨j0, hj⟩, ?_⟩, fun hj => ?_⟩
    · rintro q hq
      refine ⟨h3.is, ?_⟩
      rintro want rfl
      have hat := h3.at_ q
      rw [hat]
      refine ⟨fun hi => ⟨?_, ?_⟩, fun hi => ?_⟩
      · simp only [isR, Bool.and_eq_true, decide_eq_true_eq] at hi
        exact ⟨hi.1, hi.2.1⟩
      · rintro v rfl v' rfl
        rw [show wantR y' q = ix y'.1 q from if_pos hi]
        have hg : ∀ z, z = litArith .add .i64 j 1 → (0 ≤ z ∧ z ≤ 2) ∧ ((2 : Int) - z).toNat < ((2 : Int) - j).toNat := by
          rintro _ rfl
          rw [addI_ (by omega) (by omega)]
          omega
        simpa using hg
      · rw [show wantR y' q = (false, 0, 0) from if_neg (by rw [hi]; simp)]
        have hg : ∀ z, z = litArith .add .i64 j 1 → (0 ≤ z ∧ z ≤ 2) ∧ ((2 : Int) - z).toNat < ((2 : Int) - j).toNat := by
          rintro _ rfl
          rw [addI_ (by omega) (by omega)]
          omega
        simpa using hg
    · refine ⟨h3.is, h3.small, fun q => absurd h3.nw.symm q, fun _ => ⟨h3.is, h3.small, fun q => absurd h3.len_eq q, fun _ => ?_⟩⟩
      rw [h3.first]
      refine ⟨fun q => absurd rfl q, fun _ => ⟨fun q => by simp at q, fun _ => ?_⟩⟩
      rintro _ rfl
      rw [hadd]
      exact ⟨⟨by omega, by omega, h3⟩, meas hk⟩
  · rintro y hy y' rfl
    refine ⟨⟨ha, _, h⟩, ?_⟩
    intro e' a0 a1 a2 a3 L1 E1 l hp
    obtain ⟨h3, e3⟩ := hp _ h
    rw [← hy] at h3
    refine ⟨?_, fun q => by rw [e3, same_self] at q; simp at q, fun _ => ?_⟩
    · rw [e3]
      unfold outR
      rw [srt_length]
      have := dueN_length x.1 (nowR x (whenL o x.2)) x.1.length
      have := h.small
      omega
    refine ⟨fun j => 0 ≤ j ∧ j ≤ 2, fun j => ((2 : Int) - j).toNat, ⟨Int.le_refl _, by omega⟩, ?_⟩
    rintro j ⟨j0, j1⟩
    refine ⟨fun hj => ⟨⟨j0, hj⟩, ?_⟩, fun hj => ?_⟩
    · rintro q hq
      refine ⟨h3.is, ?_⟩
      rintro want rfl
      have hat := h3.at_ q
      rw [hat]
      refine ⟨fun hi => ⟨?_, ?_⟩, fun hi => ?_⟩
      · simp only [isR, Bool.and_eq_true, decide_eq_true_eq] at hi
        exact ⟨hi.1, hi.2.1⟩
      · rintro v rfl v' rfl
        rw [show wantR y' q = ix y'.1 q from if_pos hi]
        have hg : ∀ z, z = litArith .add .i64 j 1 → (0 ≤ z ∧ z ≤ 2) ∧ ((2 : Int) - z).toNat < ((2 : Int) - j).toNat := by
          rintro _ rfl
          rw [addI_ (by omega) (by omega)]
          omega
        simpa using hg
      · rw [show wantR y' q = (false, 0, 0) from if_neg (by rw [hi]; simp)]
        have hg : ∀ z, z = litArith .add .i64 j 1 → (0 ≤ z ∧ z ≤ 2) ∧ ((2 : Int) - z).toNat < ((2 : Int) - j).toNat := by
          rintro _ rfl
          rw [addI_ (by omega) (by omega)]
          omega
        simpa using hg
    · refine ⟨h3.is, h3.small, fun q => absurd h3.nw.symm q, fun _ => ⟨h3.is, h3.small, fun q => absurd h3.len_eq q, fun _ => ?_⟩⟩
      rw [h3.first]
      refine ⟨fun q => absurd rfl q, fun _ => ⟨fun q => by simp at q, fun _ => ?_⟩⟩
      rintro _ rfl
      rw [hadd]
      exact ⟨⟨by omega, by omega, h3⟩, meas hk⟩
  · refine ⟨fun j => 0 ≤ j ∧ j ≤ 2, fun j => ((2 : Int) - j).toNat, ⟨Int.le_refl _, by omega⟩, ?_⟩
    rintro j ⟨j0, j1⟩
    refine ⟨fun hj => ⟨⟨j0, hj⟩, ?_⟩, fun hj => ?_⟩
    · rintro q hq
      refine ⟨h.is, ?_⟩
      rintro want rfl
      have hat := h.at_ q
      rw [hat]
      refine ⟨fun hi => ⟨?_, ?_⟩, fun hi => ?_⟩
      · simp only [isR, Bool.and_eq_true, decide_eq_true_eq] at hi
        exact ⟨hi.1, hi.2.1⟩
      · rintro v rfl v' rfl
        rw [show wantR x q = ix x.1 q from if_pos hi]
        have hg : ∀ z, z = litArith .add .i64 j 1 → (0 ≤ z ∧ z ≤ 2) ∧ ((2 : Int) - z).toNat < ((2 : Int) - j).toNat := by
          rintro _ rfl
          rw [addI_ (by omega) (by omega)]
          omega
        simpa using hg
      · rw [show wantR x q = (false, 0, 0) from if_neg (by rw [hi]; simp)]
        have hg : ∀ z, z = litArith .add .i64 j 1 → (0 ≤ z ∧ z ≤ 2) ∧ ((2 : Int) - z).toNat < ((2 : Int) - j).toNat := by
          rintro _ rfl
          rw [addI_ (by omega) (by omega)]
          omega
        simpa using hg
    · refine ⟨h.is, h.small, fun q => absurd h.nw.symm q, fun _ => ⟨h.is, h.small, fun q => absurd h.len_eq q, fun _ => ?_⟩⟩
      rw [h.first]
      refine ⟨fun q => absurd rfl q, fun _ => ⟨fun q => by simp at q, fun _ => ?_⟩⟩
      rintro _ rfl
      rw [hadd]
      exact ⟨⟨by omega, by omega, h⟩, meas hk⟩
set_option maxRecDepth 10000 in
theorem plays_ok : conPlays.ok KK Try.prog 3 := by
  refine Con.of_vc ([(0, ⟨[], [(47, .d (.i .i64))], [(0, vW), (2, .pk tpWh)], [0, 1, 2], []⟩), (3, ⟨[], [(115, .d (.i .i64)), (49, .is .junk), (133, .is .junk)], [], [], []⟩)]) ([]) TT_ok follows Try.func3 ?_ G39_ok (@toVC _ _ plays_vc ?_)
  · kernel_rfl
  · kernel_rfl
noncomputable def G41 : List (FuncId × Con) := (3, conPlays) :: G39
theorem G41_ok : GOK KK Try.prog G41 := GOK.cons (Callable.of Try.func3 (by kernel_rfl) (by kernel_rfl)) plays_ok G39_ok
end Go.Proofs.Ytlkmdighjgpdlaa
/- The row of WheelPlays. -/
namespace Go.Proofs.Ytlkmdighjgpdlaa.wheelPlaysDone
open Go Go.ChangeShapes Go.WideShapes Go.ChangeAt Go.RowKit Go.Joins Go.Fx

theorem own : ownKnob Try.prog.godebug = none := by kernel_rfl
theorem laidOut : laidOutB Try.prog = true := by kernel_rfl
set_option maxRecDepth 100000 in
theorem lifted (os : Os) (started : os.Started) (H : Type) (enc : TypeId × Value → H) :
    ReturnsInHanded {} Try.checked os 3 .any (Rows.wheelPlaysSpec.pre6 enc Try.prog Try.f3 Rows.wheelPlaysRow.domain false) (Rows.wheelPlaysSpec.post enc Try.prog Try.f3 false true false false) := by
  refine returnsInHanded_of_change (C := Try.checked) own started (by kernel_rfl) Try.func3
    (ChangeSpec.witness6 (enc := enc) (C := Try.checked) false ⟨#[], #[.int .i64 0, .int .u64 0, .slice none 0 0, .int .i64 0], []⟩ 8 (by kernel_rfl) (by kernel_rfl) (by kernel_rfl) (by kernel_rfl)) ?_
  intro W base args ds gs before hval hW hcnd _
  have hW' := hW
  obtain ⟨p, q, hA, hV, rfl, hfz, hnd⟩ := hW
  obtain ⟨rfl, rfl⟩ := trodVars_none hV
  obtain ⟨us, h1, h2, h3⟩ := rowIn (d := 8) ([.i .i64, .i .u64, .sl tpOp, .i .i64]) hA (by kernel_rfl) (fun j t v ht hv => hval j t v (by simpa using ht) (by simpa using hv))
  have hc := lawT_walk plays_ok us h1 h2 W _ h3
  rw [Array.toArray_toList] at hc
  have hA' := hA
  rw [Try.params3] at hA'
  obtain ⟨v0, vs0, d0, ds0, p0, q0, e0, rfl, rfl, _, r0⟩ := trodAll_cons hA'
  obtain ⟨v1, vs1, d1, ds1, p1, q1, e1, rfl, rfl, _, r1⟩ := trodAll_cons r0
  obtain ⟨v2, vs2, d2, ds2, p2, q2, e2, rfl, rfl, _, r2⟩ := trodAll_cons r1
  obtain ⟨v3, vs3, d3, ds3, p3, q3, e3, rfl, rfl, _, r3⟩ := trodAll_cons r2
  obtain ⟨_, rfl, rfl⟩ := trodAll_nil r3
  refine hc.mono fun e W' ⟨he, bel⟩ => ?_
  subst he
  exact ⟨_, rfl, _, _, _, [], _, [], hW', trodAll_mk1 (shut_bool Try.underlying4 _), rowOut laidOut bel (by kernel_rfl) hA, rfl, bel.frame _, fun h => by cases h⟩

theorem over : Rows.wheelPlaysRow.holds Try.pinned (OpenSpec.ofChange Rows.wheelPlaysSpec) :=
  OpenClaim.holds_of_wide 3 Try.f3 rfl rfl rfl rfl rfl rfl rfl ⟨rfl, rfl, rfl, rfl, rfl⟩ rfl rfl rfl rfl rfl (by kernel_rfl) Try.func3 (by kernel_rfl)
    (of_decide_eq_true (by kernel_rfl)) (by unfold Func.isWrapper; first | (rw [if_pos (by decide +kernel)]; kernel_rfl) | (rw [if_neg (by decide +kernel)]; exact ⟨rfl, rfl⟩))
    (fun os started H enc _ => lifted os started H enc)

/-- The statement. -/
theorem proved : Rows.WheelPlaysSaid := over
#print axioms proved
end Go.Proofs.Ytlkmdighjgpdlaa.wheelPlaysDone
