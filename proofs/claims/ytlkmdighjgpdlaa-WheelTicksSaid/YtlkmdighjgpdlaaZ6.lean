/- The laws of package wheel: WheelFar. -/
import Derived.Test.YtlkmdighjgpdlaaZ2
import Derived.Test.YtlkmdighjgpdlaaRows
import Derived.Test.YtlkmdighjgpdlaaFt
set_option linter.all false
namespace Go.Proofs.Ytlkmdighjgpdlaa
open Go Go.Fx
theorem u64_wf {n : Int} (h : wfK .u64 n) : u64ok n := by
  unfold wfK at h
  simp [Lit.wf, IntKind.min, IntKind.max, IntKind.signed, IntKind.bits] at h
  unfold u64ok
  omega
theorem u64_of {n : Int} (h : Fits (.i .u64) n) : u64ok n := u64_wf h.out
theorem ix_mem {α : Type} [Inhabited α] {l : List α} {k : Int} (h0 : 0 ≤ k) (h1 : k < l.length) : ix l k ∈ l := by
  unfold ix
  rw [List.getD_eq_getElem?_getD, List.getElem?_eq_getElem (by omega)]
  exact List.getElem_mem _
theorem u64_ix {l : List Int} (h : Fits (.sl (.i .u64)) l) {k : Int} (h0 : 0 ≤ k) (h1 : k < l.length) : u64ok (ix l k) := u64_wf (h.out.2 _ (ix_mem h0 h1))
/-- One alarm alone. -/
def W1 (told : Bool) (at_ time : Int) : Wh := ([if told then (false, 0, 0) else (true, at_, 0)], time)
theorem W1_to (told : Bool) (at_ time s : Int) : toR (W1 told at_ time) s = W1 (told || decide (at_ ≤ if time < s then s else time)) at_ (if time < s then s else time) ∧ outR (W1 told at_ time) s = if !told && decide (at_ ≤ if time < s then s else time) then [0] else [] := by
  unfold toR outR W1 nowR clr clrOne dueN dueB ix
  generalize (if time < s then s else time) = t
  cases told <;> by_cases h : at_ ≤ t <;> simp [h, srt, List.range_succ, List.filter]
set_option maxRecDepth 10000 in
theorem far_vc :
  ∀ x0 : Int,
  ∀ x1 : Int,
  ∀ x2 : List Int,
  ((((True) ∧
      (Fits (Tp.i IntKind.u64) x0)) ∧
     (Fits (Tp.i IntKind.u64) x1)) ∧
    (Fits (Tp.sl (Tp.i IntKind.u64)) x2)) →
  (True) ∧
  (True →
   ((litCmp BinOp.gtr (↑(List.length x2) : Int) (40 : Int) = true) →
    (True) ∧
    (True)) ∧
   ((litCmp BinOp.gtr (↑(List.length x2) : Int) (40 : Int) = false) →
    (u64ok x0) ∧
    (True →
     ((IsW x0 (0 : Int) (0 : Int) (0 : Int) (0 : Int) [((-1 : Int), (-1 : Int), (-1 : Int))] (List.replicate (258 : Nat) ((-1 : Int), (-1 : Int), (0 : Int))) [((0 : Int), (0 : Int))]) ∧
      ((u64ok x1) ∧
       (u64ok (0 : Int)))) ∧
     (∀ x3 : Int,
      ∀ x4 : Int,
      ∀ x5 : Int,
      ∀ x6 : Int,
      ∀ x7 : List (Int × Int × Int),
      ∀ x8 : List (Int × Int × Int),
      ∀ x9 : List (Int × Int),
      ∀ x10 : Bool,
      (SetPost (0 : Int) x1 (0 : Int) x0 (0 : Int) (0 : Int) (0 : Int) (0 : Int) [((-1 : Int), (-1 : Int), (-1 : Int))] (List.replicate (258 : Nat) ((-1 : Int), (-1 : Int), (0 : Int))) [((0 : Int), (0 : Int))] x3 x4 x5 x6 x7 x8 x9 x10) →
      (((!x10) = true) →
       (True) ∧
       (False)) ∧
      (((!x10) = false) →
       ∃ x11 : Int → Bool → Int → Int → Int → Int → Int → Int → List (Int × Int × Int) → List (Int × Int × Int) → Prop,
       ∃ x12 : Int → Bool → Int → Int → Int → Int → Int → Int → List (Int × Int × Int) → List (Int × Int × Int) → Nat,
       (x11 (0 : Int) false x0 x0 x3 x4 x5 x6 x7 x8) ∧
       (∀ x13 : Int,
        ∀ x14 : Bool,
        ∀ x15 : Int,
        ∀ x16 : Int,
        ∀ x17 : Int,
        ∀ x18 : Int,
        ∀ x19 : Int,
        ∀ x20 : Int,
        ∀ x21 : List (Int × Int × Int),
        ∀ x22 : List (Int × Int × Int),
        (x11 x13 x14 x15 x16 x17 x18 x19 x20 x21 x22) →
        ((litCmp BinOp.lss x13 (↑(List.length x2) : Int) = true) →
         (((0 : Int) ≤ x13) ∧
          (x13 < (↑(List.length x2) : Int))) ∧
         (∀ x23 : Int,
          (x23 = ix x2 x13) →
          ∀ x24 : Int,
          (x24 = if x15 < x23 then x23 else x15) →
          ((u64ok x23) ∧
           (∃ x25 : Wh,
            RepW x25 x16 x17 x18 x19 x20 x21 x22 x9)) ∧
          (∀ x26 : Int,
           ∀ x27 : Int,
           ∀ x28 : Int,
           ∀ x29 : Int,
           ∀ x30 : Int,
           ∀ x31 : List (Int × Int × Int),
           ∀ x32 : List (Int × Int × Int),
           ∀ x33 : List Int,
           (ToPost x23 x16 x17 x18 x19 x20 x21 x22 x9 x26 x27 x28 x29 x30 x31 x32 x33) →
           ((litCmp BinOp.leq x1 x24 = true) →
            (((!litCmp BinOp.eql (↑(List.length x33) : Int) (1 : Int) == !x14) = true) →
             (True) ∧
             (False)) ∧
            (((!litCmp BinOp.eql (↑(List.length x33) : Int) (1 : Int) == !x14) = false) →
             (True) ∧
             (True →
              ((litCmp BinOp.neq x26 x24 = true) →
               (True) ∧
               (False)) ∧
              ((litCmp BinOp.neq x26 x24 = false) →
               ((x14 = true) →
                (IsW x26 x27 x28 x29 x30 x31 x32 x9) ∧
                (True →
                 (((Prod.snd (Prod.snd (atC x31 x9 (0 : Int))) == true) = true) →
                  (True) ∧
                  (False)) ∧
                 (((Prod.snd (Prod.snd (atC x31 x9 (0 : Int))) == true) = false) →
                  ∀ x34 : Int,
                  (x34 = litArith BinOp.add IntKind.i64 x13 (1 : Int)) →
                  (x1 = x1) ∧
                  ((x2 = x2) ∧
                   (((↑(List.length x2) : Int) = (↑(List.length x2) : Int)) ∧
                    (((↑(List.length x2) : Int) = (↑(List.length x2) : Int)) ∧
                     ((x9 = x9) ∧
                      (((↑(List.length x9) : Int) = (↑(List.length x9) : Int)) ∧
                       ((x11 x34 true x24 x26 x27 x28 x29 x30 x31 x32) ∧
                        (x12 x34 true x24 x26 x27 x28 x29 x30 x31 x32 < x12 x13 x14 x15 x16 x17 x18 x19 x20 x21 x22)))))))))) ∧
               ((x14 = false) →
                (IsW x26 x27 x28 x29 x30 x31 x32 x9) ∧
                (True →
                 (((Prod.snd (Prod.snd (atC x31 x9 (0 : Int))) == litCmp BinOp.leq x1 x24) = true) →
                  (True) ∧
                  (False)) ∧
                 (((Prod.snd (Prod.snd (atC x31 x9 (0 : Int))) == litCmp BinOp.leq x1 x24) = false) →
                  ∀ x35 : Int,
                  (x35 = litArith BinOp.add IntKind.i64 x13 (1 : Int)) →
                  (x1 = x1) ∧
                  ((x2 = x2) ∧
                   (((↑(List.length x2) : Int) = (↑(List.length x2) : Int)) ∧
                    (((↑(List.length x2) : Int) = (↑(List.length x2) : Int)) ∧
                     ((x9 = x9) ∧
                      (((↑(List.length x9) : Int) = (↑(List.length x9) : Int)) ∧
                       ((x11 x35 (litCmp BinOp.leq x1 x24) x24 x26 x27 x28 x29 x30 x31 x32) ∧
                        (x12 x35 (litCmp BinOp.leq x1 x24) x24 x26 x27 x28 x29 x30 x31 x32 < x12 x13 x14 x15 x16 x17 x18 x19 x20 x21 x22)))))))))))))) ∧
           ((litCmp BinOp.leq x1 x24 = false) →
            (((!litCmp BinOp.eql (↑(List.length x33) : Int) (1 : Int) == false) = true) →
             (True) ∧
             (False)) ∧
            (((!litCmp BinOp.eql (↑(List.length x33) : Int) (1 : Int) == false) = false) →
             (True) ∧
             (True →
              ((litCmp BinOp.neq x26 x24 = true) →
               (True) ∧
               (False)) ∧
              ((litCmp BinOp.neq x26 x24 = false) →
               ((x14 = true) →
                (IsW x26 x27 x28 x29 x30 x31 x32 x9) ∧
                (True →
                 (((Prod.snd (Prod.snd (atC x31 x9 (0 : Int))) == true) = true) →
                  (True) ∧
                  (False)) ∧
                 (((Prod.snd (Prod.snd (atC x31 x9 (0 : Int))) == true) = false) →
                  ∀ x36 : Int,
                  (x36 = litArith BinOp.add IntKind.i64 x13 (1 : Int)) →
                  (x1 = x1) ∧
                  ((x2 = x2) ∧
                   (((↑(List.length x2) : Int) = (↑(List.length x2) : Int)) ∧
                    (((↑(List.length x2) : Int) = (↑(List.length x2) : Int)) ∧
                     ((x9 = x9) ∧
                      (((↑(List.length x9) : Int) = (↑(List.length x9) : Int)) ∧
                       ((x11 x36 true x24 x26 x27 x28 x29 x30 x31 x32) ∧
                        (x12 x36 true x24 x26 x27 x28 x29 x30 x31 x32 < x12 x13 x14 x15 x16 x17 x18 x19 x20 x21 x22)))))))))) ∧
               ((x14 = false) →
                (IsW x26 x27 x28 x29 x30 x31 x32 x9) ∧
                (True →
                 (((Prod.snd (Prod.snd (atC x31 x9 (0 : Int))) == litCmp BinOp.leq x1 x24) = true) →
                  (True) ∧
                  (False)) ∧
                 (((Prod.snd (Prod.snd (atC x31 x9 (0 : Int))) == litCmp BinOp.leq x1 x24) = false) →
                  ∀ x37 : Int,
                  (x37 = litArith BinOp.add IntKind.i64 x13 (1 : Int)) →
                  (x1 = x1) ∧
                  ((x2 = x2) ∧
                   (((↑(List.length x2) : Int) = (↑(List.length x2) : Int)) ∧
                    (((↑(List.length x2) : Int) = (↑(List.length x2) : Int)) ∧
                     ((x9 = x9) ∧
                      (((↑(List.length x9) : Int) = (↑(List.length x9) : Int)) ∧
                       ((x11 x37 (litCmp BinOp.leq x1 x24) x24 x26 x27 x28 x29 x30 x31 x32) ∧
                        (x12 x37 (litCmp BinOp.leq x1 x24) x24 x26 x27 x28 x29 x30 x31 x32 < x12 x13 x14 x15 x16 x17 x18 x19 x20 x21 x22))))))))))))))))) ∧
        ((litCmp BinOp.lss x13 (↑(List.length x2) : Int) = false) →
         ((u64ok (18446744073709551615 : Int)) ∧
          (∃ x38 : Wh,
           RepW x38 x16 x17 x18 x19 x20 x21 x22 x9)) ∧
         (∀ x39 : Int,
          ∀ x40 : Int,
          ∀ x41 : Int,
          ∀ x42 : Int,
          ∀ x43 : Int,
          ∀ x44 : List (Int × Int × Int),
          ∀ x45 : List (Int × Int × Int),
          ∀ x46 : List Int,
          (ToPost (18446744073709551615 : Int) x16 x17 x18 x19 x20 x21 x22 x9 x39 x40 x41 x42 x43 x44 x45 x46) →
          (((litCmp BinOp.eql (↑(List.length x46) : Int) (1 : Int) == !x14) = true) →
           (IsW x39 x40 x41 x42 x43 x44 x45 x9) ∧
           (True →
            (True) ∧
            ((litCmp BinOp.eql (lenW x40 x41 x42 x43 x45) (0 : Int) = true) ∧
             (True)))) ∧
          (((litCmp BinOp.eql (↑(List.length x46) : Int) (1 : Int) == !x14) = false) →
           (True) ∧
           (False)))))))))) := by
  rintro now at_ steps ⟨⟨⟨_, hn⟩, ha⟩, hs⟩
  have hn := u64_of hn
  have ha := u64_of ha
  simp only [gtrT, gtrF, lssT, lssF, leqT, leqF, geqT, geqF, eqlT, eqlF, neqT, neqF, true_and, and_true, true_implies, implies_true, Bool.not_eq_true', Bool.not_eq_false', bne_iff_ne, ne_eq, not_true_eq_false, not_false_eq_true, Int.toNat_natCast, same_self, reduceCtorEq, false_implies, List.nil_append]
  intro hlen
  have hu : ∀ n : Int, 0 ≤ n ∧ n < 18446744073709551616 → u64ok n := fun n h => h
  have h0 : RepW ([(false, 0, 0)], now) now 0 0 0 0 [((-1 : Int), (-1 : Int), (-1 : Int))] (List.replicate (258 : Nat) ((-1 : Int), (-1 : Int), (0 : Int))) [((0 : Int), (0 : Int))] := RepW.new (k := 1) hn
  refine ⟨hn, ⟨h0.is, ha, hu _ (by omega)⟩, ?_⟩
  intro a0 a1 a2 a3 L0 E0 M b hp
  obtain ⟨h1, e⟩ := h0.set ha (hu _ (by omega)) hp
  clear h0 hp
  rw [show setR ([(false, 0, 0)], now) 0 at_ 0 = (W1 false at_ now, true) from rfl] at h1 e
  subst e
  refine ⟨fun q => by simp at q, fun _ => ?_⟩
  refine ⟨fun k told time e d0 d1 d2 d3 L E => 0 ≤ k ∧ k ≤ steps.length ∧ e = time ∧ RepW (W1 told at_ time) time d0 d1 d2 d3 L E M ∧ (told = true → at_ ≤ time), fun k _ _ _ _ _ _ _ _ _ => ((steps.length : Int) - k).toNat, ⟨Int.le_refl _, Int.natCast_nonneg _, rfl, h1, fun q => by cases q⟩, ?_⟩
  rintro k told tm0 time d0 d1 d2 d3 L E ⟨k0, k1, he0, h, ht⟩
  subst he0
  refine ⟨fun hk => ⟨⟨k0, hk⟩, ?_⟩, fun hk => ⟨⟨hu _ (by omega), _, h⟩, ?_⟩⟩
  · rintro s hs' t rfl
    have hsu : u64ok s := by
      rw [hs']
      exact u64_ix hs k0 hk
    refine ⟨⟨hsu, _, h⟩, ?_⟩
    intro e f0 f1 f2 f3 L2 E2 o hp
    obtain ⟨h2, ho⟩ := hp _ h
    rw [(W1_to told at_ time s).1] at h2
    rw [(W1_to told at_ time s).2] at ho
    have he := h2.nw
    have hat := h2.at_ 0
    generalize hT : (if time < s then s else time) = t at *
    have htt : time ≤ t := by rw [← hT]; split <;> omega
    have he : t = e := he
    subst he
    have hadd : litArith .add .i64 k 1 = k + 1 := addI_ (by omega) (by omega)
    have hon : (atC L2 M 0).2.2 = !(told || decide (at_ ≤ t)) := by
      rw [hat]
      unfold wantR isR W1 ix
      cases (told || decide (at_ ≤ t)) <;> rfl
    have hol : (o.length : Int) = if !told && decide (at_ ≤ t) then 1 else 0 := by rw [ho]; split <;> rfl
    rw [hon, hol]
    cases told with
    | true =>
      have hd := ht rfl
      have hd : at_ ≤ t := by omega
      simp only [hd, decide_true, Bool.or_true, litCmp] at h2 ⊢
      simp [litCmp, hadd, h2.is, hd]
      have hg : (0 ≤ k + 1 ∧ k + 1 ≤ (steps.length : Int) ∧ RepW (W1 true at_ t) t f0 f1 f2 f3 L2 E2 M) ∧ max ((steps.length : Int) - (k + 1)) 0 < (steps.length : Int) - k := ⟨⟨by omega, by omega, h2⟩, by omega⟩
      exact ⟨hg, fun _ => hg⟩
    | false =>
      by_cases hd : at_ ≤ t
      · simp only [hd, decide_true, Bool.or_true] at h2 ⊢
        simp [litCmp, hadd, h2.is, hd]
        have hg : (0 ≤ k + 1 ∧ k + 1 ≤ (steps.length : Int) ∧ RepW (W1 true at_ t) t f0 f1 f2 f3 L2 E2 M) ∧ max ((steps.length : Int) - (k + 1)) 0 < (steps.length : Int) - k := ⟨⟨by omega, by omega, h2⟩, by omega⟩
        exact hg
      · simp only [hd, decide_false, Bool.or_false] at h2 ⊢
        simp [litCmp, hadd, h2.is, hd]
        have hg : (0 ≤ k + 1 ∧ k + 1 ≤ (steps.length : Int) ∧ RepW (W1 false at_ t) t f0 f1 f2 f3 L2 E2 M) ∧ max ((steps.length : Int) - (k + 1)) 0 < (steps.length : Int) - k := ⟨⟨by omega, by omega, h2⟩, by omega⟩
        exact fun _ => hg
  · intro e f0 f1 f2 f3 L2 E2 o hp
    obtain ⟨h2, ho⟩ := hp _ h
    rw [(W1_to told at_ time _).1] at h2
    rw [(W1_to told at_ time _).2] at ho
    have hle := h2.len_eq
    have htm := h.is.now
    have hT : at_ ≤ (if time < 18446744073709551615 then 18446744073709551615 else time) := by
      have := ha.2
      split <;> omega
    rw [hle]
    have hol : (o.length : Int) = if !told then 1 else 0 := by rw [ho]; simp only [hT, decide_true, Bool.and_true]; split <;> rfl
    rw [hol]
    simp only [hT, decide_true, Bool.or_true]
    refine ⟨fun _ => ⟨h2.is, by simp [W1, lenR, litCmp]⟩, ?_⟩
    cases told <;> simp [litCmp]
set_option maxRecDepth 10000 in
theorem far_ok : conFar.ok KK Try.prog 9 := by
  refine Con.of_vc ([(0, ⟨[], [(32, .d (.i .i64)), (8, .d .bo), (9, .d (.i .u64))], [(0, vW)], [0, 1], []⟩)]) ([]) TT_ok follows Try.func9 ?_ G39_ok (@toVC _ _ far_vc ?_)
  · kernel_rfl
  · kernel_rfl
noncomputable def G40 : List (FuncId × Con) := (9, conFar) :: G39
theorem G40_ok : GOK KK Try.prog G40 := GOK.cons (Callable.of Try.func9 (by kernel_rfl) (by kernel_rfl)) far_ok G39_ok
end Go.Proofs.Ytlkmdighjgpdlaa
/- Wheels whose alarms are known: the plain law. -/
namespace Go.Proofs.Ytlkmdighjgpdlaa
open Go Go.Fx
/-- Alarms of which some are set. -/
def setP (f : Nat → Int × Int) (n : Nat) (p : Nat → Bool) : List Mk := (List.range n).map fun i => if p i then (true, f i) else (false, 0, 0)
theorem setP_len {f : Nat → Int × Int} {n : Nat} {p : Nat → Bool} : (setP f n p).length = n := by simp [setP]
theorem setP_get {f : Nat → Int × Int} {n : Nat} {p : Nat → Bool} {i : Nat} (h : i < n) : (setP f n p)[i]? = some (if p i then (true, f i) else (false, 0, 0)) := by simp [setP, h]
theorem setP_ix {f : Nat → Int × Int} {n : Nat} {p : Nat → Bool} {i : Nat} (h : i < n) : ix (setP f n p) (i : Int) = if p i then (true, f i) else (false, 0, 0) := by
  unfold ix
  rw [List.getD_eq_getElem?_getD, Int.toNat_natCast, setP_get h]
  rfl
theorem setP_congr {f : Nat → Int × Int} {n : Nat} {p q : Nat → Bool} (h : ∀ i, i < n → p i = q i) : setP f n p = setP f n q := by
  apply List.ext_getElem?
  intro i
  by_cases hi : i < n
  · rw [setP_get hi, setP_get hi, h i hi]
  · rw [List.getElem?_eq_none (by rw [setP_len]; omega), List.getElem?_eq_none (by rw [setP_len]; omega)]
theorem setP_none {f : Nat → Int × Int} {n : Nat} : setP f n (fun _ => false) = List.replicate n (false, 0, 0) := by
  apply List.ext_getElem?
  intro i
  by_cases hi : i < n
  · rw [setP_get hi, List.getElem?_replicate, if_pos hi]; rfl
  · rw [List.getElem?_eq_none (by rw [setP_len]; omega), List.getElem?_replicate, if_neg hi]
theorem setP_set {f : Nat → Int × Int} {n : Nat} {p : Nat → Bool} {now : Int} {k : Nat} (hk : k < n) (hp : p k = false) : setR (setP f n p, now) k (f k).1 (f k).2 = ((setP f n (fun i => p i || i == k), now), true) := by
  unfold setR
  rw [if_neg (by
    simp only [setP_len, setP_ix hk, hp]
    simp
    omega)]
  unfold withR
  simp only [Int.toNat_natCast, Prod.mk.injEq, and_true]
  apply List.ext_getElem?
  intro i
  by_cases hi : i < n
  · rw [List.getElem?_set, setP_len, setP_get hi]
    by_cases e : k = i
    · subst e
      rw [setP_get hk]
      simp [hk]
    · rw [if_neg e, setP_get hi]
      have : (i == k) = false := by simpa using fun q => e q.symm
      simp [this]
  · rw [List.getElem?_eq_none (by rw [List.length_set, setP_len]; omega), List.getElem?_eq_none (by rw [setP_len]; omega)]
theorem setP_clr {f : Nat → Int × Int} {n : Nat} {p : Nat → Bool} {T : Int} : clr (setP f n p) T = setP f n (fun i => p i && !decide ((f i).1 ≤ T)) := by
  apply List.ext_getElem?
  intro i
  unfold clr
  rw [List.getElem?_map]
  by_cases hi : i < n
  · rw [setP_get hi, setP_get hi]
    unfold clrOne
    by_cases h1 : p i <;> by_cases h2 : (f i).1 ≤ T <;> simp [h1, h2]
  · rw [List.getElem?_eq_none (by rw [setP_len]; omega), List.getElem?_eq_none (by rw [setP_len]; omega)]; rfl
/-- Some of the alarms, by their numbers. -/
def numP (n : Nat) (q : Nat → Bool) : List Int := ((List.range n).filter q).map fun i : Nat => (i : Int)
def fI (f : Nat → Int × Int) (k : Int) : Int × Int := f k.toNat
def outP (f : Nat → Int × Int) (n : Nat) (q : Nat → Bool) : List Int := srt (cfM (fI f)) (numP n q)
theorem numP_mem {n : Nat} {q : Nat → Bool} {k : Int} : k ∈ numP n q ↔ ∃ i : Nat, k = i ∧ i < n ∧ q i = true := by
  unfold numP
  rw [List.mem_map]
  constructor
  · rintro ⟨i, hi, rfl⟩
    rw [List.mem_filter, List.mem_range] at hi
    exact ⟨i, rfl, hi.1, hi.2⟩
  · rintro ⟨i, rfl, h1, h2⟩
    exact ⟨i, by rw [List.mem_filter, List.mem_range]; exact ⟨h1, h2⟩, rfl⟩
theorem numP_nodup (n : Nat) (q : Nat → Bool) : (numP n q).Nodup := by
  unfold numP
  refine List.Pairwise.map _ (fun a b h => ?_) (List.Pairwise.filter _ (List.nodup_range (n := n)))
  intro e
  exact h (by omega)
theorem outP_mem {f : Nat → Int × Int} {n : Nat} {q : Nat → Bool} {k : Int} : k ∈ outP f n q ↔ ∃ i : Nat, k = i ∧ i < n ∧ q i = true := by unfold outP; rw [srt_mem, numP_mem]
theorem outP_nodup (f : Nat → Int × Int) (n : Nat) (q : Nat → Bool) : (outP f n q).Nodup := (srt_perm _ _).nodup_iff.2 (numP_nodup n q)
theorem outP_pair (f : Nat → Int × Int) (n : Nat) (q : Nat → Bool) : (outP f n q).Pairwise (ltM (fI f)) := srt_pair _ (numP_nodup n q)
theorem outP_congr {f : Nat → Int × Int} {n : Nat} {p q : Nat → Bool} (h : ∀ i, i < n → p i = q i) : outP f n p = outP f n q := by
  unfold outP numP
  rw [List.filter_congr fun i hi => h i (List.mem_range.1 hi)]
theorem outP_len (f : Nat → Int × Int) (n : Nat) (q : Nat → Bool) : (outP f n q).length ≤ n := by
  unfold outP numP
  rw [srt_length, List.length_map]
  exact Nat.le_trans (List.length_filter_le _ _) (by simp)
theorem outP_of {f : Nat → Int × Int} {n : Nat} {q : Nat → Bool} {l : List Int} (hm : ∀ k, k ∈ l ↔ ∃ i : Nat, k = i ∧ i < n ∧ q i = true) (hp : l.Pairwise (ltM (fI f))) : l = outP f n q := by
  have hn : l.Nodup := hp.imp fun h e => by subst e; exact ltM.irr h
  exact srt_eq (numP_nodup n q) ((List.perm_ext_iff_of_nodup hn (numP_nodup n q)).2 fun k => by rw [hm, numP_mem]) hp
theorem setP_to {f : Nat → Int × Int} {n : Nat} {p : Nat → Bool} {t0 to : Int} : toR (setP f n p, t0) to = (setP f n (fun i => p i && !decide ((f i).1 ≤ if t0 < to then to else t0)), if t0 < to then to else t0) ∧
    outR (setP f n p, t0) to = outP f n (fun i => p i && decide ((f i).1 ≤ if t0 < to then to else t0)) := by
  unfold toR outR nowR
  simp only
  generalize (if t0 < to then to else t0) = T
  refine ⟨by rw [setP_clr], ?_⟩
  have hm : ∀ k, k ∈ srt (cfM (mkAt (setP f n p))) (dueN (setP f n p) T (setP f n p).length) ↔ ∃ i : Nat, k = i ∧ i < n ∧ (p i && decide ((f i).1 ≤ T)) = true := fun k => by
    rw [srt_mem, dueN_mem, setP_len]
    constructor
    · rintro ⟨h0, h1, h2⟩
      obtain ⟨i, rfl⟩ := Int.eq_ofNat_of_zero_le h0
      have hi : i < n := by omega
      refine ⟨i, rfl, hi, ?_⟩
      unfold dueB at h2
      rw [setP_ix hi] at h2
      cases hp : p i with
      | false => rw [hp] at h2; simp at h2
      | true => rw [hp] at h2; simpa using h2
    · rintro ⟨i, rfl, hi, h⟩
      refine ⟨by omega, by omega, ?_⟩
      unfold dueB
      rw [setP_ix hi]
      simp only [Bool.and_eq_true] at h
      rw [h.1]
      simpa using h.2
  refine outP_of hm ?_
  refine (srt_pair (mkAt (setP f n p)) (dueN_nodup _ _ _)).imp_of_mem ?_
  intro a b ha hb hab
  obtain ⟨i, rfl, hi, h1⟩ := (hm a).1 ha
  obtain ⟨j, rfl, hj, h2⟩ := (hm b).1 hb
  simp only [Bool.and_eq_true] at h1 h2
  have ea : mkAt (setP f n p) (i : Int) = fI f i := by unfold mkAt fI; rw [setP_ix hi, h1.1, Int.toNat_natCast]; rfl
  have eb : mkAt (setP f n p) (j : Int) = fI f j := by unfold mkAt fI; rw [setP_ix hj, h2.1, Int.toNat_natCast]; rfl
  unfold ltM at hab ⊢
  rw [ea, eb] at hab
  exact hab
/-- Those of one step stand ahead of those of the next one. -/
theorem outP_app {f : Nat → Int × Int} {n : Nat} {q : Nat → Bool} {T T' : Int} (h : T ≤ T') : outP f n (fun i => q i && decide ((f i).1 ≤ T)) ++ outP f n (fun i => (q i && !decide ((f i).1 ≤ T)) && decide ((f i).1 ≤ T')) = outP f n (fun i => q i && decide ((f i).1 ≤ T')) := by
  refine outP_of (fun k => ?_) (List.pairwise_append.2 ⟨outP_pair _ _ _, outP_pair _ _ _, fun a ha b hb => ?_⟩)
  · rw [List.mem_append, outP_mem, outP_mem]
    constructor
    · rintro (⟨i, rfl, hi, h1⟩ | ⟨i, rfl, hi, h1⟩)
      · refine ⟨i, rfl, hi, ?_⟩
        simp only [Bool.and_eq_true, decide_eq_true_eq] at h1 ⊢
        exact ⟨h1.1, by omega⟩
      · refine ⟨i, rfl, hi, ?_⟩
        simp only [Bool.and_eq_true, decide_eq_true_eq] at h1 ⊢
        exact ⟨h1.1.1, h1.2⟩
    · rintro ⟨i, rfl, hi, h1⟩
      simp only [Bool.and_eq_true, decide_eq_true_eq] at h1
      by_cases c : (f i).1 ≤ T
      · exact .inl ⟨i, rfl, hi, by simp [h1.1, c]⟩
      · exact .inr ⟨i, rfl, hi, by simp [h1.1, h1.2, c]⟩
  · obtain ⟨i, rfl, hi, h1⟩ := outP_mem.1 ha
    obtain ⟨j, rfl, hj, h2⟩ := outP_mem.1 hb
    simp only [Bool.and_eq_true, decide_eq_true_eq, Bool.not_eq_true', decide_eq_false_iff_not] at h1 h2
    unfold ltM fI
    simp only [Int.toNat_natCast]
    omega
end Go.Proofs.Ytlkmdighjgpdlaa
/- Two wheels side by side: patterns; numbers that are cut. -/
namespace Go.Proofs.Ytlkmdighjgpdlaa
open Go Go.Fx
def vWb : VP := .ls [.is (.lp 3 0), .is (.own 5), .d (.i .u64), .d (.i .i64), .d (.i .i64), .d (.i .i64), .d (.i .i64)]
theorem wrapU_ok (x : Int) : u64ok (IntKind.wrap .u64 x) := by
  show u64ok (if (false && decide (x % 18446744073709551616 ≥ (2 ^ 63 : Int))) = true then x % 18446744073709551616 - 18446744073709551616 else x % 18446744073709551616)
  rw [Bool.false_and, if_neg (by simp)]
  unfold u64ok
  omega
theorem addU_ok (x y : Int) : u64ok (litArith .add .u64 x y) := wrapU_ok _
theorem mask62 {x : Int} (h : u64ok x) : litArith .and .u64 x 4611686018427387903 = x % 4611686018427387904 := by
  have := andM_ (x := x) 62 (by omega) h.1 h.2
  have e1 : ((2 ^ 62 - 1 : Nat) : Int) = 4611686018427387903 := by decide
  have e2 : ((2 ^ 62 : Nat) : Int) = 4611686018427387904 := by decide
  rw [e1, e2] at this
  exact this
theorem cutN {n : Nat} (h : n ≤ 4096) : cut4096 (n : Int) = n := by
  unfold cut4096
  rw [if_neg (by omega), if_neg (by omega)]
  simp
theorem new_P (f : Nat → Int × Int) {n : Nat} (h : n ≤ 4096) : List.replicate (cut4096 (n : Int)) (false, 0, 0) = setP f n (fun i => decide (i < 0)) := by
  rw [cutN h, ← setP_none (f := f)]
  exact setP_congr fun i _ => by simp
theorem set_P {f : Nat → Int × Int} {n : Nat} {now : Int} {m : Nat} (h : m < n) : setR (setP f n (fun i => decide (i < m)), now) m (f m).1 (f m).2 = ((setP f n (fun i => decide (i < m + 1)), now), true) := by
  rw [setP_set h (by simp)]
  congr 2
  refine setP_congr fun i _ => ?_
  by_cases h1 : i < m
  · simp [h1]; omega
  · by_cases h2 : i = m
    · simp [h2]
    · have : ¬ i < m + 1 := by omega
      simp [h1, h2, this]
theorem all_P {f : Nat → Int × Int} {n : Nat} : setP f n (fun i => decide (i < n)) = setP f n (fun _ => true) := setP_congr fun i h => by simp [h]
/-- All alarms of a time that is gone are told. -/
def leftP (f : Nat → Int × Int) (n : Nat) (T : Int) : List Mk := setP f n (fun i => true && !decide ((f i).1 ≤ T))
def toldP (f : Nat → Int × Int) (n : Nat) (T : Int) : List Int := outP f n (fun i => true && decide ((f i).1 ≤ T))
theorem left_to {f : Nat → Int × Int} {n : Nat} {T to : Int} : toR (leftP f n T, T) to = (leftP f n (if T < to then to else T), if T < to then to else T) ∧ toldP f n T ++ outR (leftP f n T, T) to = toldP f n (if T < to then to else T) := by
  have hT : T ≤ if T < to then to else T := by split <;> omega
  unfold leftP toldP
  rw [setP_to.1, setP_to.2]
  generalize (if T < to then to else T) = T' at hT
  refine ⟨?_, outP_app hT⟩
  congr 1
  refine setP_congr fun i _ => ?_
  by_cases h : (f i).1 ≤ T
  · have : (f i).1 ≤ T' := by omega
    simp [h, this]
  · simp [h]
theorem all_to {f : Nat → Int × Int} {n : Nat} {t0 to : Int} : toR (setP f n (fun _ => true), t0) to = (leftP f n (if t0 < to then to else t0), if t0 < to then to else t0) ∧ outR (setP f n (fun _ => true), t0) to = toldP f n (if t0 < to then to else t0) := setP_to
theorem toldP_len (f : Nat → Int × Int) (n : Nat) (T : Int) : (toldP f n T).length ≤ n := outP_len _ _ _
end Go.Proofs.Ytlkmdighjgpdlaa
/- Wheels whose alarms are known: what is asked of them. -/
namespace Go.Proofs.Ytlkmdighjgpdlaa
open Go Go.Fx
theorem setP_want {f : Nat → Int × Int} {n : Nat} {p : Nat → Bool} {T : Int} {i : Nat} (h : i < n) : wantR (setP f n p, T) (i : Int) = if p i then (true, f i) else (false, 0, 0) := by
  unfold wantR isR
  simp only [setP_len, setP_ix h]
  cases hp : p i <;> simp [h]
theorem lenR_none {f : Nat → Int × Int} {n : Nat} {p : Nat → Bool} (h : ∀ i, i < n → p i = false) : lenR (setP f n p) = 0 := by
  rw [setP_congr (q := fun _ => false) h, setP_none]
  unfold lenR
  rw [List.filter_eq_nil_iff.2]
  · rfl
  · intro x hx
    rw [List.mem_replicate] at hx
    rw [hx.2]
    simp
theorem mask9 {x : Int} (h : u64ok x) : litArith .and .u64 x 511 = x % 512 := by
  have := andM_ (x := x) 9 (by omega) h.1 h.2
  have e1 : ((2 ^ 9 - 1 : Nat) : Int) = 511 := by decide
  have e2 : ((2 ^ 9 : Nat) : Int) = 512 := by decide
  rw [e1, e2] at this
  exact this
theorem mask57 {x : Int} (h : u64ok x) : litArith .and .u64 x 144115188075855871 = x % 144115188075855872 := by
  have := andM_ (x := x) 57 (by omega) h.1 h.2
  have e1 : ((2 ^ 57 - 1 : Nat) : Int) = 144115188075855871 := by decide
  have e2 : ((2 ^ 57 : Nat) : Int) = 144115188075855872 := by decide
  rw [e1, e2] at this
  exact this
end Go.Proofs.Ytlkmdighjgpdlaa
/- The laws of package wheel: WheelTicks. -/
namespace Go.Proofs.Ytlkmdighjgpdlaa
open Go Go.Fx

set_option maxRecDepth 10000 in
theorem ticks_vc :
  ∀ x0 : Int,
  ∀ x1 : List Int,
  (((True) ∧
     (Fits (Tp.i IntKind.u64) x0)) ∧
    (Fits (Tp.sl (Tp.i IntKind.u64)) x1)) →
  (True) ∧
  (True →
   ((litCmp BinOp.gtr (↑(List.length x1) : Int) (20 : Int) = true) →
    (True) ∧
    (True)) ∧
   ((litCmp BinOp.gtr (↑(List.length x1) : Int) (20 : Int) = false) →
    ((litCmp BinOp.gtr x0 (4611686018427387904 : Int) = true) →
     (True) ∧
     (True)) ∧
    ((litCmp BinOp.gtr x0 (4611686018427387904 : Int) = false) →
     (u64ok x0) ∧
     (True →
      ∃ x2 : Int → Int → Int → Int → Int → Int → List (Int × Int × Int) → List (Int × Int × Int) → List (Int × Int) → Prop,
      ∃ x3 : Int → Int → Int → Int → Int → Int → List (Int × Int × Int) → List (Int × Int × Int) → List (Int × Int) → Nat,
      (x2 (0 : Int) x0 (0 : Int) (0 : Int) (0 : Int) (0 : Int) (List.replicate (cut4096 (↑(List.length x1) : Int)) ((-1 : Int), (-1 : Int), (-1 : Int))) (List.replicate (258 : Nat) ((-1 : Int), (-1 : Int), (0 : Int))) (List.replicate (cut4096 (↑(List.length x1) : Int)) ((0 : Int), (0 : Int)))) ∧
      (∀ x4 : Int,
       ∀ x5 : Int,
       ∀ x6 : Int,
       ∀ x7 : Int,
       ∀ x8 : Int,
       ∀ x9 : Int,
       ∀ x10 : List (Int × Int × Int),
       ∀ x11 : List (Int × Int × Int),
       ∀ x12 : List (Int × Int),
       (x2 x4 x5 x6 x7 x8 x9 x10 x11 x12) →
       ((litCmp BinOp.lss x4 (↑(List.length x1) : Int) = true) →
        (((0 : Int) ≤ x4) ∧
         (x4 < (↑(List.length x1) : Int))) ∧
        (∀ x13 : Int,
         (x13 = ix x1 x4) →
         ∀ x14 : Int,
         (x14 = litArith BinOp.and IntKind.u64 x13 (511 : Int)) →
         ∀ x15 : Int,
         (x15 = litArith BinOp.add IntKind.u64 x0 x14) →
         ((IsW x5 x6 x7 x8 x9 x10 x11 x12) ∧
          ((u64ok x15) ∧
           (u64ok (0 : Int)))) ∧
         (∀ x16 : Int,
          ∀ x17 : Int,
          ∀ x18 : Int,
          ∀ x19 : Int,
          ∀ x20 : List (Int × Int × Int),
          ∀ x21 : List (Int × Int × Int),
          ∀ x22 : List (Int × Int),
          ∀ x23 : Bool,
          (SetPost x4 x15 (0 : Int) x5 x6 x7 x8 x9 x10 x11 x12 x16 x17 x18 x19 x20 x21 x22 x23) →
          ∀ x24 : Int,
          (x24 = litArith BinOp.add IntKind.i64 x4 (1 : Int)) →
          (x0 = x0) ∧
          ((x1 = x1) ∧
           (((↑(List.length x1) : Int) = (↑(List.length x1) : Int)) ∧
            ((x1 = x1) ∧
             (((↑(List.length x1) : Int) = (↑(List.length x1) : Int)) ∧
              (((↑(List.length x1) : Int) = (↑(List.length x1) : Int)) ∧
               ((x2 x24 x5 x16 x17 x18 x19 x20 x21 x22) ∧
                (x3 x24 x5 x16 x17 x18 x19 x20 x21 x22 < x3 x4 x5 x6 x7 x8 x9 x10 x11 x12)))))))))) ∧
       ((litCmp BinOp.lss x4 (↑(List.length x1) : Int) = false) →
        ∃ x25 : Int → Int → Int → Int → Int → Int → List (Int × Int × Int) → List (Int × Int × Int) → Prop,
        ∃ x26 : Int → Int → Int → Int → Int → Int → List (Int × Int × Int) → List (Int × Int × Int) → Nat,
        (x25 (0 : Int) x5 x6 x7 x8 x9 x10 x11) ∧
        (∀ x27 : Int,
         ∀ x28 : Int,
         ∀ x29 : Int,
         ∀ x30 : Int,
         ∀ x31 : Int,
         ∀ x32 : Int,
         ∀ x33 : List (Int × Int × Int),
         ∀ x34 : List (Int × Int × Int),
         (x25 x27 x28 x29 x30 x31 x32 x33 x34) →
         ((litCmp BinOp.lss x27 (512 : Int) = true) →
          ∀ x35 : Int,
          (x35 = litArith BinOp.add IntKind.u64 x0 x27) →
          ((u64ok x35) ∧
           (∃ x36 : Wh,
            RepW x36 x28 x29 x30 x31 x32 x33 x34 x12)) ∧
          (∀ x37 : Int,
           ∀ x38 : Int,
           ∀ x39 : Int,
           ∀ x40 : Int,
           ∀ x41 : Int,
           ∀ x42 : List (Int × Int × Int),
           ∀ x43 : List (Int × Int × Int),
           ∀ x44 : List Int,
           (ToPost x35 x28 x29 x30 x31 x32 x33 x34 x12 x37 x38 x39 x40 x41 x42 x43 x44) →
           ∃ x45 : Int → Prop,
           ∃ x46 : Int → Nat,
           (x45 (0 : Int)) ∧
           (∀ x47 : Int,
            (x45 x47) →
            ((litCmp BinOp.lss x47 (↑(List.length x44) : Int) = true) →
             (((0 : Int) ≤ x47) ∧
              (x47 < (↑(List.length x44) : Int))) ∧
             (∀ x48 : Int,
              (x48 = ix x44 x47) →
              ((litCmp BinOp.lss x48 (0 : Int) = true) →
               (True) ∧
               (False)) ∧
              ((litCmp BinOp.lss x48 (0 : Int) = false) →
               ((litCmp BinOp.geq x48 (↑(List.length x1) : Int) = true) →
                (True) ∧
                (False)) ∧
               ((litCmp BinOp.geq x48 (↑(List.length x1) : Int) = false) →
                (((0 : Int) ≤ x48) ∧
                 (x48 < (↑(List.length x1) : Int))) ∧
                (∀ x49 : Int,
                 (x49 = ix x1 x48) →
                 ∀ x50 : Int,
                 (x50 = litArith BinOp.and IntKind.u64 x49 (511 : Int)) →
                 ((litCmp BinOp.neq x50 x27 = true) →
                  (True) ∧
                  (False)) ∧
                 ((litCmp BinOp.neq x50 x27 = false) →
                  ∀ x51 : Int,
                  (x51 = litArith BinOp.add IntKind.i64 x47 (1 : Int)) →
                  (x0 = x0) ∧
                  ((x1 = x1) ∧
                   (((↑(List.length x1) : Int) = (↑(List.length x1) : Int)) ∧
                    ((x27 = x27) ∧
                     ((x27 = x27) ∧
                      ((litCmp BinOp.lss x27 (512 : Int) = litCmp BinOp.lss x27 (512 : Int)) ∧
                       ((x27 = x27) ∧
                        ((x0 = x0) ∧
                         ((x27 = x27) ∧
                          ((x35 = x35) ∧
                           (((↑(List.length x44) : Int) = (↑(List.length x44) : Int)) ∧
                            ((x37 = x37) ∧
                             ((x38 = x38) ∧
                              ((x39 = x39) ∧
                               ((x40 = x40) ∧
                                ((x41 = x41) ∧
                                 ((x42 = x42) ∧
                                  (((↑(List.length x42) : Int) = (↑(List.length x42) : Int)) ∧
                                   ((x43 = x43) ∧
                                    (((↑(List.length x43) : Int) = (↑(List.length x43) : Int)) ∧
                                     ((x12 = x12) ∧
                                      (((↑(List.length x12) : Int) = (↑(List.length x12) : Int)) ∧
                                       ((x44 = x44) ∧
                                        (((↑(List.length x44) : Int) = (↑(List.length x44) : Int)) ∧
                                         ((x45 x51) ∧
                                          (x46 x51 < x46 x47))))))))))))))))))))))))))))))) ∧
            ((litCmp BinOp.lss x47 (↑(List.length x44) : Int) = false) →
             ∃ x52 : Int → Prop,
             ∃ x53 : Int → Nat,
             (x52 (0 : Int)) ∧
             (∀ x54 : Int,
              (x52 x54) →
              ((litCmp BinOp.lss x54 (↑(List.length x1) : Int) = true) →
               (((0 : Int) ≤ x54) ∧
                (x54 < (↑(List.length x1) : Int))) ∧
               (∀ x55 : Int,
                (x55 = ix x1 x54) →
                (IsW x37 x38 x39 x40 x41 x42 x43 x12) ∧
                (True →
                 ∀ x56 : Int,
                 (x56 = litArith BinOp.and IntKind.u64 x55 (511 : Int)) →
                 (((!Prod.snd (Prod.snd (atC x42 x12 x54)) == litCmp BinOp.gtr x56 x27) = true) →
                  (True) ∧
                  (False)) ∧
                 (((!Prod.snd (Prod.snd (atC x42 x12 x54)) == litCmp BinOp.gtr x56 x27) = false) →
                  ∀ x57 : Int,
                  (x57 = litArith BinOp.add IntKind.i64 x54 (1 : Int)) →
                  (x0 = x0) ∧
                  ((x1 = x1) ∧
                   (((↑(List.length x1) : Int) = (↑(List.length x1) : Int)) ∧
                    ((x27 = x27) ∧
                     ((x27 = x27) ∧
                      ((litCmp BinOp.lss x27 (512 : Int) = litCmp BinOp.lss x27 (512 : Int)) ∧
                       ((x27 = x27) ∧
                        ((x0 = x0) ∧
                         ((x27 = x27) ∧
                          ((x35 = x35) ∧
                           (((↑(List.length x44) : Int) = (↑(List.length x44) : Int)) ∧
                            ((x47 = x47) ∧
                             ((litCmp BinOp.lss x47 (↑(List.length x44) : Int) = litCmp BinOp.lss x47 (↑(List.length x44) : Int)) ∧
                              ((x1 = x1) ∧
                               (((↑(List.length x1) : Int) = (↑(List.length x1) : Int)) ∧
                                (((↑(List.length x1) : Int) = (↑(List.length x1) : Int)) ∧
                                 ((x37 = x37) ∧
                                  ((x38 = x38) ∧
                                   ((x39 = x39) ∧
                                    ((x40 = x40) ∧
                                     ((x41 = x41) ∧
                                      ((x42 = x42) ∧
                                       (((↑(List.length x42) : Int) = (↑(List.length x42) : Int)) ∧
                                        ((x43 = x43) ∧
                                         (((↑(List.length x43) : Int) = (↑(List.length x43) : Int)) ∧
                                          ((x12 = x12) ∧
                                           (((↑(List.length x12) : Int) = (↑(List.length x12) : Int)) ∧
                                            ((x44 = x44) ∧
                                             (((↑(List.length x44) : Int) = (↑(List.length x44) : Int)) ∧
                                              ((x52 x57) ∧
                                               (x53 x57 < x53 x54)))))))))))))))))))))))))))))))))) ∧
              ((litCmp BinOp.lss x54 (↑(List.length x1) : Int) = false) →
               ∀ x58 : Int,
               (x58 = litArith BinOp.add IntKind.u64 x27 (1 : Int)) →
               (x0 = x0) ∧
               ((x1 = x1) ∧
                (((↑(List.length x1) : Int) = (↑(List.length x1) : Int)) ∧
                 ((x12 = x12) ∧
                  (((↑(List.length x12) : Int) = (↑(List.length x12) : Int)) ∧
                   ((x25 x58 x37 x38 x39 x40 x41 x42 x43) ∧
                    (x26 x58 x37 x38 x39 x40 x41 x42 x43 < x26 x27 x28 x29 x30 x31 x32 x33 x34)))))))))))) ∧
         ((litCmp BinOp.lss x27 (512 : Int) = false) →
          (IsW x28 x29 x30 x31 x32 x33 x34 x12) ∧
          (True →
           (True) ∧
           ((litCmp BinOp.eql (lenW x29 x30 x31 x32 x34) (0 : Int) = true) ∧
            (True))))))))))) := by
  rintro now gaps ⟨⟨_, hn⟩, hg⟩
  have hn := u64_of hn
  have hnow := hn.1
  simp only [gtrT, gtrF, lssT, lssF, leqT, leqF, geqT, geqF, eqlT, eqlF, neqT, neqF, true_and, and_true, true_implies, implies_true, Bool.not_eq_true', Bool.not_eq_false', bne_iff_ne, ne_eq, not_true_eq_false, not_false_eq_true, Int.toNat_natCast, same_self, reduceCtorEq, false_implies, List.nil_append]
  intro hl1 hl2
  obtain ⟨n, hlen⟩ : ∃ n, gaps.length = n := ⟨_, rfl⟩
  obtain ⟨f, hf⟩ : ∃ f : Nat → Int × Int, f = fun i : Nat => (litArith .add .u64 now (litArith .and .u64 (ix gaps (i : Int)) 511), (0 : Int)) := ⟨_, rfl⟩
  have hgm : ∀ i : Nat, i < n → litArith .and .u64 (ix gaps (i : Int)) 511 = ix gaps (i : Int) % 512 := fun i hi => mask9 (u64_ix hg (by omega) (by omega))
  have hf1 : ∀ i : Nat, i < n → (f i).1 = now + ix gaps (i : Int) % 512 := fun i hi => by
    rw [hf]
    simp only [hgm i hi]
    exact addU_ (by omega) (by omega)
  have h0 : RepW (setP f n (fun i => decide (i < 0)), now) now 0 0 0 0 (List.replicate (cut4096 ((List.length gaps : Nat) : Int)) ((-1 : Int), (-1 : Int), (-1 : Int))) (List.replicate (258 : Nat) ((-1 : Int), (-1 : Int), (0 : Int))) (List.replicate (cut4096 ((List.length gaps : Nat) : Int)) ((0 : Int), (0 : Int))) := by
    rw [hlen, ← new_P f (n := n) (by omega)]
    exact RepW.new hn
  refine ⟨hn, ?_⟩
  refine ⟨fun k e d0 d1 d2 d3 L E M => ∃ m : Nat, k = m ∧ m ≤ n ∧ RepW (setP f n (fun i => decide (i < m)), now) e d0 d1 d2 d3 L E M, fun k _ _ _ _ _ _ _ _ => ((n : Int) - k).toNat, ⟨0, rfl, Nat.zero_le _, h0⟩, ?_⟩
  rintro k e d0 d1 d2 d3 L E M ⟨m, rfl, hm, ha⟩
  rw [hlen]
  refine ⟨fun hk => ⟨⟨by omega, hk⟩, ?_⟩, fun hk => ?_⟩
  · have hmn : m < n := by omega
    have hfm : f m = (litArith .add .u64 now (litArith .and .u64 (ix gaps (m : Int)) 511), 0) := by rw [hf]
    have hset := set_P (f := f) (now := now) hmn
    rw [hfm] at hset
    simp only at hset
    have hz : u64ok 0 := ⟨by omega, by omega⟩
    rintro _ rfl _ rfl _ rfl
    refine ⟨⟨ha.is, addU_ok _ _, hz⟩, ?_⟩
    intro a0 a1 a2 a3 L1 E1 M1 b1 hp
    obtain ⟨h1, _⟩ := ha.set (addU_ok _ _) hz hp
    rw [hset] at h1
    rintro _ rfl
    rw [addI_ (by omega) (by omega)]
    exact ⟨⟨m + 1, by omega, by omega, h1⟩, meas hk⟩
  · obtain rfl : m = n := by omega
    have h1 : RepW (setP f m (fun i => decide (((0 : Nat) : Int) ≤ ix gaps (i : Int) % 512)), now) e d0 d1 d2 d3 L E M := by
      rw [setP_congr (q := fun i => decide (i < m)) fun i hi => by
        have : ((0 : Nat) : Int) ≤ ix gaps (i : Int) % 512 := by omega
        simp only [this, hi, decide_true]]
      exact ha
    refine ⟨fun k e d0 d1 d2 d3 L2 E2 => ∃ t : Nat, k = t ∧ t ≤ 512 ∧ ∃ T, now ≤ T ∧ T ≤ now + t ∧ RepW (setP f m (fun i => decide ((t : Int) ≤ ix gaps (i : Int) % 512)), T) e d0 d1 d2 d3 L2 E2 M, fun k _ _ _ _ _ _ _ => ((512 : Int) - k).toNat, ⟨0, rfl, by omega, now, Int.le_refl _, by omega, h1⟩, ?_⟩
    rintro k e d0 d1 d2 d3 L2 E2 ⟨t, rfl, ht, T, hT0, hT1, h2⟩
    refine ⟨fun hk => ?_, fun hk => ?_⟩
    · rintro _ rfl
      have hto : litArith .add .u64 now (t : Int) = now + t := addU_ (by omega) (by omega)
      rw [hto]
      refine ⟨⟨⟨by omega, by omega⟩, _, h2⟩, ?_⟩
      intro e1 a0 a1 a2 a3 L3 E3 o hp
      obtain ⟨h3, ho⟩ := hp _ h2
      have hTs : (if T < now + t then now + (t : Int) else T) = now + t := by split <;> omega
      rw [setP_to.1, hTs] at h3
      rw [setP_to.2, hTs] at ho
      have h4 : RepW (setP f m (fun i => decide (((t + 1 : Nat) : Int) ≤ ix gaps (i : Int) % 512)), now + t) e1 a0 a1 a2 a3 L3 E3 M := by
        rw [setP_congr (q := fun i => decide ((t : Int) ≤ ix gaps (i : Int) % 512) && !decide ((f i).1 ≤ now + t)) fun i hi => by
          rw [hf1 i hi]
          by_cases c : ((t + 1 : Nat) : Int) ≤ ix gaps (i : Int) % 512
          · have c1 : (t : Int) ≤ ix gaps (i : Int) % 512 := by omega
            have c2 : ¬ now + ix gaps (i : Int) % 512 ≤ now + t := by omega
            simp only [c, c1, c2, decide_true, decide_false, Bool.not_false, Bool.and_self]
          · by_cases c1 : (t : Int) ≤ ix gaps (i : Int) % 512
            · have c2 : now + ix gaps (i : Int) % 512 ≤ now + t := by omega
              simp only [c, c1, c2, decide_true, decide_false, Bool.not_true, Bool.and_false]
            · simp only [c, c1, decide_false, Bool.false_and]]
        exact h3
      have hmem : ∀ x ∈ o, ∃ i : Nat, x = i ∧ i < m ∧ ix gaps (i : Int) % 512 = t := fun x hx => by
        rw [ho] at hx
        obtain ⟨i, rfl, hi, hq⟩ := outP_mem.1 hx
        rw [hf1 i hi] at hq
        simp only [Bool.and_eq_true, decide_eq_true_eq] at hq
        exact ⟨i, rfl, hi, by omega⟩
      refine ⟨fun j => 0 ≤ j ∧ j ≤ o.length, fun j => ((o.length : Int) - j).toNat, ⟨Int.le_refl _, Int.natCast_nonneg _⟩, ?_⟩
      rintro j ⟨j0, j1⟩
      refine ⟨fun hj => ⟨⟨j0, hj⟩, ?_⟩, fun hj => ?_⟩
      · rintro x hx
        obtain ⟨i, hxi, hi, hq⟩ := hmem x (by rw [hx]; exact ix_mem j0 hj)
        subst hxi
        have hol : (o.length : Int) ≤ 20 := by
          rw [ho]
          have := outP_len f m (fun i => decide ((t : Int) ≤ ix gaps (i : Int) % 512) && decide ((f i).1 ≤ now + t))
          omega
        have hadd : litArith .add .i64 j 1 = j + 1 := addI_ (by omega) (by omega)
        have hcond : litArith .and .u64 (ix gaps (i : Int)) 511 = t := by rw [hgm i hi]; exact hq
        have c1 : (0 : Int) ≤ i := by omega
        have c2 : (i : Int) < m := by omega
        refine ⟨fun q => by omega, fun _ => ⟨fun q => by omega, fun _ => ⟨⟨c1, c2⟩, ?_⟩⟩⟩
        rintro _ rfl _ rfl
        rw [hcond, hadd]
        refine ⟨fun q => q rfl, fun _ => ?_⟩
        rintro _ rfl
        exact ⟨⟨by omega, by omega⟩, meas hj⟩
      · refine ⟨fun j => 0 ≤ j ∧ j ≤ m, fun j => ((m : Int) - j).toNat, ⟨Int.le_refl _, by omega⟩, ?_⟩
        rintro j ⟨j0, j1⟩
        refine ⟨fun hj => ⟨⟨j0, hj⟩, ?_⟩, fun hj => ?_⟩
        · obtain ⟨i, rfl⟩ := Int.eq_ofNat_of_zero_le j0
          have hi : i < m := by omega
          have hadd : litArith .add .i64 (i : Int) 1 = i + 1 := addI_ (by omega) (by omega)
          rintro _ rfl
          refine ⟨h4.is, ?_⟩
          rintro _ rfl
          rw [hgm i hi, h4.at_ (i : Int), setP_want hi, hadd]
          have hq : (if decide (((t + 1 : Nat) : Int) ≤ ix gaps (i : Int) % 512) = true then ((true, f i) : Mk) else (false, 0, 0)).1 = litCmp .gtr (ix gaps (i : Int) % 512) (t : Int) := by
            by_cases c : ((t + 1 : Nat) : Int) ≤ ix gaps (i : Int) % 512
            · have c1 : (t : Int) < ix gaps (i : Int) % 512 := by omega
              simp only [c, c1, litCmp, decide_true, if_true]
            · have c1 : ¬ (t : Int) < ix gaps (i : Int) % 512 := by omega
              simp only [c, c1, litCmp, decide_false, Bool.false_eq_true, if_false]
          simp only [hq]
          refine ⟨fun q => by simp at q, fun _ => ?_⟩
          rintro _ rfl
          exact ⟨⟨by omega, by omega⟩, meas hj⟩
        · rintro _ rfl
          rw [addU_ (by omega) (by omega)]
          exact ⟨⟨t + 1, by omega, by omega, now + t, by omega, by omega, h4⟩, meas hk⟩
    · refine ⟨h2.is, ?_⟩
      rw [h2.len_eq]
      rw [lenR_none fun i hi => by
        have : ¬ (t : Int) ≤ ix gaps (i : Int) % 512 := by omega
        simp only [this, decide_false]]
set_option maxRecDepth 10000 in
theorem ticks_ok : conTicks.ok KK Try.prog 8 := by
  refine Con.of_vc ([(0, ⟨[], [(31, .d (.i .i64))], [(0, vW)], [0, 1, 2], []⟩), (2, ⟨[], [(44, .d (.i .u64))], [(0, vW)], [0, 1], []⟩), (4, ⟨[], [(53, .d (.i .i64))], [], [], []⟩), (6, ⟨[], [(77, .d (.i .i64))], [], [], []⟩)]) ([]) TT_ok follows Try.func8 ?_ G39_ok (@toVC _ _ ticks_vc ?_)
  · kernel_rfl
  · kernel_rfl
noncomputable def G44 : List (FuncId × Con) := (8, conTicks) :: G39
theorem G44_ok : GOK KK Try.prog G44 := GOK.cons (Callable.of Try.func8 (by kernel_rfl) (by kernel_rfl)) ticks_ok G39_ok
end Go.Proofs.Ytlkmdighjgpdlaa
/- The row of WheelTicks. -/
namespace Go.Proofs.Ytlkmdighjgpdlaa.wheelTicksDone
open Go Go.ChangeShapes Go.WideShapes Go.ChangeAt Go.RowKit Go.Joins Go.Fx

theorem own : ownKnob Try.prog.godebug = none := by kernel_rfl
theorem laidOut : laidOutB Try.prog = true := by kernel_rfl
set_option maxRecDepth 100000 in
theorem lifted (os : Os) (started : os.Started) (H : Type) (enc : TypeId × Value → H) :
    ReturnsInHanded {} Try.checked os 8 .any (Rows.wheelTicksSpec.pre6 enc Try.prog Try.f8 Rows.wheelTicksRow.domain false) (Rows.wheelTicksSpec.post enc Try.prog Try.f8 false true false false) := by
  refine returnsInHanded_of_change (C := Try.checked) own started (by kernel_rfl) Try.func8
    (ChangeSpec.witness6 (enc := enc) (C := Try.checked) false ⟨#[], #[.int .u64 0, .slice none 0 0], []⟩ 8 (by kernel_rfl) (by kernel_rfl) (by kernel_rfl) (by kernel_rfl)) ?_
  intro W base args ds gs before hval hW hcnd _
  have hW' := hW
  obtain ⟨p, q, hA, hV, rfl, hfz, hnd⟩ := hW
  obtain ⟨rfl, rfl⟩ := trodVars_none hV
  obtain ⟨us, h1, h2, h3⟩ := rowIn (d := 8) ([.i .u64, .sl (.i .u64)]) hA (by kernel_rfl) (fun j t v ht hv => hval j t v (by simpa using ht) (by simpa using hv))
  have hc := lawT_walk ticks_ok us h1 h2 W _ h3
  rw [Array.toArray_toList] at hc
  have hA' := hA
  rw [Try.params8] at hA'
  obtain ⟨v0, vs0, d0, ds0, p0, q0, e0, rfl, rfl, _, r0⟩ := trodAll_cons hA'
  obtain ⟨v1, vs1, d1, ds1, p1, q1, e1, rfl, rfl, _, r1⟩ := trodAll_cons r0
  obtain ⟨_, rfl, rfl⟩ := trodAll_nil r1
  refine hc.mono fun e W' ⟨he, bel⟩ => ?_
  subst he
  exact ⟨_, rfl, _, _, _, [], _, [], hW', trodAll_mk1 (shut_bool Try.underlying4 _), rowOut laidOut bel (by kernel_rfl) hA, rfl, bel.frame _, fun h => by cases h⟩

theorem over : Rows.wheelTicksRow.holds Try.pinned (OpenSpec.ofChange Rows.wheelTicksSpec) :=
  OpenClaim.holds_of_wide 8 Try.f8 rfl rfl rfl rfl rfl rfl rfl ⟨rfl, rfl, rfl, rfl, rfl⟩ rfl rfl rfl rfl rfl (by kernel_rfl) Try.func8 (by kernel_rfl)
    (of_decide_eq_true (by kernel_rfl)) (by unfold Func.isWrapper; first | (rw [if_pos (by decide +kernel)]; kernel_rfl) | (rw [if_neg (by decide +kernel)]; exact ⟨rfl, rfl⟩))
    (fun os started H enc _ => lifted os started H enc)

/-- The statement. -/
theorem proved : Rows.WheelTicksSaid := over
#print axioms proved
end Go.Proofs.Ytlkmdighjgpdlaa.wheelTicksDone
