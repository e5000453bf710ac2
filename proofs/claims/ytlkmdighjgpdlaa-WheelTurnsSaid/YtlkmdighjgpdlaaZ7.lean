/- The laws of package wheel: WheelFar. -/
import Derived.Test.YtlkmdighjgpdlaaZ2
import Derived.Test.YtlkmdighjgpdlaaRows
import Derived.Test.YtlkmdighjgpdlaaFt
set_option linter.all false
namespace Go.Proofs.Ytlkmdighjgpdlaa
open Go Go.Fx
theorem u64_wf {n : Int} (h : wfK .u64 n) : u64ok n := by
  unfold wfK at h
  simp [Lit.wf, IntKind.min, IntKind.max, IntKind.signed, IntKind.bits] at h
  unfold u64ok
  omega
theorem u64_of {n : Int} (h : Fits (.i .u64) n) : u64ok n := u64_wf h.out
theorem ix_mem {α : Type} [Inhabited α] {l : List α} {k : Int} (h0 : 0 ≤ k) (h1 : k < l.length) : ix l k ∈ l := by
  unfold ix
  rw [List.getD_eq_getElem?_getD, List.getElem?_eq_getElem (by omega)]
  exact List.getElem_mem _
theorem u64_ix {l : List Int} (h : Fits (.sl (.i .u64)) l) {k : Int} (h0 : 0 ≤ k) (h1 : k < l.length) : u64ok (ix l k) := u64_wf (h.out.2 _ (ix_mem h0 h1))
/-- One alarm alone. -/
def W1 (told : Bool) (at_ time : Int) : Wh := ([if told then (false, 0, 0) else (true, at_, 0)], time)
theorem W1_to (told : Bool) (at_ time s : Int) : toR (W1 told at_ time) s = W1 (told || decide (at_ ≤ if time < s then s else time)) at_ (if time < s then s else time) ∧ outR (W1 told at_ time) s = if !told && decide (at_ ≤ if time < s then s else time) then [0] else [] := by
  unfold toR outR W1 nowR clr clrOne dueN dueB ix
  generalize (if time < s then s else time) = t
  cases told <;> by_cases h : at_ ≤ t <;> simp [h, srt, List.range_succ, List.filter]
set_option maxRecDepth 10000 in
theorem far_vc :
  ∀ x0 : Int,
  ∀ x1 : Int,
  ∀ x2 : List Int,
  ((((True) ∧
      (Fits (Tp.i IntKind.u64) x0)) ∧
     (Fits (Tp.i IntKind.u64) x1)) ∧
    (Fits (Tp.sl (Tp.i IntKind.u64)) x2)) →
  (True) ∧
  (True →
   ((litCmp BinOp.gtr (↑(List.length x2) : Int) (40 : Int) = true) →
    (True) ∧
    (True)) ∧
   ((litCmp BinOp.gtr (↑(List.length x2) : Int) (40 : Int) = false) →
    (u64ok x0) ∧
    (True →
     ((IsW x0 (0 : Int) (0 : Int) (0 : Int) (0 : Int) [((-1 : Int), (-1 : Int), (-1 : Int))] (List.replicate (258 : Nat) ((-1 : Int), (-1 : Int), (0 : Int))) [((0 : Int), (0 : Int))]) ∧
      ((u64ok x1) ∧
       (u64ok (0 : Int)))) ∧
     (∀ x3 : Int,
      ∀ x4 : Int,
      ∀ x5 : Int,
      ∀ x6 : Int,
      ∀ x7 : List (Int × Int × Int),
      ∀ x8 : List (Int × Int × Int),
      ∀ x9 : List (Int × Int),
      ∀ x10 : Bool,
      (SetPost (0 : Int) x1 (0 : Int) x0 (0 : Int) (0 : Int) (0 : Int) (0 : Int) [((-1 : Int), (-1 : Int), (-1 : Int))] (List.replicate (258 : Nat) ((-1 : Int), (-1 : Int), (0 : Int))) [((0 : Int), (0 : Int))] x3 x4 x5 x6 x7 x8 x9 x10) →
      (((!x10) = true) →
       (True) ∧
       (False)) ∧
      (((!x10) = false) →
       ∃ x11 : Int → Bool → Int → Int → Int → Int → Int → Int → List (Int × Int × Int) → List (Int × Int × Int) → Prop,
       ∃ x12 : Int → Bool → Int → Int → Int → Int → Int → Int → List (Int × Int × Int) → List (Int × Int × Int) → Nat,
       (x11 (0 : Int) false x0 x0 x3 x4 x5 x6 x7 x8) ∧
       (∀ x13 : Int,
        ∀ x14 : Bool,
        ∀ x15 : Int,
        ∀ x16 : Int,
        ∀ x17 : Int,
        ∀ x18 : Int,
        ∀ x19 : Int,
        ∀ x20 : Int,
        ∀ x21 : List (Int × Int × Int),
        ∀ x22 : List (Int × Int × Int),
        (x11 x13 x14 x15 x16 x17 x18 x19 x20 x21 x22) →
        ((litCmp BinOp.lss x13 (↑(List.length x2) : Int) = true) →
         (((0 : Int) ≤ x13) ∧
          (x13 < (↑(List.length x2) : Int))) ∧
         (∀ x23 : Int,
          (x23 = ix x2 x13) →
          ∀ x24 : Int,
          (x24 = if x15 < x23 then x23 else x15) →
          ((u64ok x23) ∧
           (∃ x25 : Wh,
            RepW x25 x16 x17 x18 x19 x20 x21 x22 x9)) ∧
          (∀ x26 : Int,
           ∀ x27 : Int,
           ∀ x28 : Int,
           ∀ x29 : Int,
           ∀ x30 : Int,
           ∀ x31 : List (Int × Int × Int),
           ∀ x32 : List (Int × Int × Int),
           ∀ x33 : List Int,
           (ToPost x23 x16 x17 x18 x19 x20 x21 x22 x9 x26 x27 x28 x29 x30 x31 x32 x33) →
           ((litCmp BinOp.leq x1 x24 = true) →
            (((!litCmp BinOp.eql (↑(List.length x33) : Int) (1 : Int) == !x14) = true) →
             (True) ∧
             (False)) ∧
            (((!litCmp BinOp.eql (↑(List.length x33) : Int) (1 : Int) == !x14) = false) →
             (True) ∧
             (True →
              ((litCmp BinOp.neq x26 x24 = true) →
               (True) ∧
               (False)) ∧
              ((litCmp BinOp.neq x26 x24 = false) →
               ((x14 = true) →
                (IsW x26 x27 x28 x29 x30 x31 x32 x9) ∧
                (True →
                 (((Prod.snd (Prod.snd (atC x31 x9 (0 : Int))) == true) = true) →
                  (True) ∧
                  (False)) ∧
                 (((Prod.snd (Prod.snd (atC x31 x9 (0 : Int))) == true) = false) →
                  ∀ x34 : Int,
                  (x34 = litArith BinOp.add IntKind.i64 x13 (1 : Int)) →
                  (x1 = x1) ∧
                  ((x2 = x2) ∧
                   (((↑(List.length x2) : Int) = (↑(List.length x2) : Int)) ∧
                    (((↑(List.length x2) : Int) = (↑(List.length x2) : Int)) ∧
                     ((x9 = x9) ∧
                      (((↑(List.length x9) : Int) = (↑(List.length x9) : Int)) ∧
                       ((x11 x34 true x24 x26 x27 x28 x29 x30 x31 x32) ∧
                        (x12 x34 true x24 x26 x27 x28 x29 x30 x31 x32 < x12 x13 x14 x15 x16 x17 x18 x19 x20 x21 x22)))))))))) ∧
               ((x14 = false) →
                (IsW x26 x27 x28 x29 x30 x31 x32 x9) ∧
                (True →
                 (((Prod.snd (Prod.snd (atC x31 x9 (0 : Int))) == litCmp BinOp.leq x1 x24) = true) →
                  (True) ∧
                  (False)) ∧
                 (((Prod.snd (Prod.snd (atC x31 x9 (0 : Int))) == litCmp BinOp.leq x1 x24) = false) →
                  ∀ x35 : Int,
                  (x35 = litArith BinOp.add IntKind.i64 x13 (1 : Int)) →
                  (x1 = x1) ∧
                  ((x2 = x2) ∧
                   (((↑(List.length x2) : Int) = (↑(List.length x2) : Int)) ∧
                    (((↑(List.length x2) : Int) = (↑(List.length x2) : Int)) ∧
                     ((x9 = x9) ∧
                      (((↑(List.length x9) : Int) = (↑(List.length x9) : Int)) ∧
                       ((x11 x35 (litCmp BinOp.leq x1 x24) x24 x26 x27 x28 x29 x30 x31 x32) ∧
                        (x12 x35 (litCmp BinOp.leq x1 x24) x24 x26 x27 x28 x29 x30 x31 x32 < x12 x13 x14 x15 x16 x17 x18 x19 x20 x21 x22)))))))))))))) ∧
           ((litCmp BinOp.leq x1 x24 = false) →
            (((!litCmp BinOp.eql (↑(List.length x33) : Int) (1 : Int) == false) = true) →
             (True) ∧
             (False)) ∧
            (((!litCmp BinOp.eql (↑(List.length x33) : Int) (1 : Int) == false) = false) →
             (True) ∧
             (True →
              ((litCmp BinOp.neq x26 x24 = true) →
               (True) ∧
               (False)) ∧
              ((litCmp BinOp.neq x26 x24 = false) →
               ((x14 = true) →
                (IsW x26 x27 x28 x29 x30 x31 x32 x9) ∧
                (True →
                 (((Prod.snd (Prod.snd (atC x31 x9 (0 : Int))) == true) = true) →
                  (True) ∧
                  (False)) ∧
                 (((Prod.snd (Prod.snd (atC x31 x9 (0 : Int))) == true) = false) →
                  ∀ x36 : Int,
                  (x36 = litArith BinOp.add IntKind.i64 x13 (1 : Int)) →
                  (x1 = x1) ∧
                  ((x2 = x2) ∧
                   (((↑(List.length x2) : Int) = (↑(List.length x2) : Int)) ∧
                    (((↑(List.length x2) : Int) = (↑(List.length x2) : Int)) ∧
                     ((x9 = x9) ∧
                      (((↑(List.length x9) : Int) = (↑(List.length x9) : Int)) ∧
                       ((x11 x36 true x24 x26 x27 x28 x29 x30 x31 x32) ∧
                        (x12 x36 true x24 x26 x27 x28 x29 x30 x31 x32 < x12 x13 x14 x15 x16 x17 x18 x19 x20 x21 x22)))))))))) ∧
               ((x14 = false) →
                (IsW x26 x27 x28 x29 x30 x31 x32 x9) ∧
                (True →
                 (((Prod.snd (Prod.snd (atC x31 x9 (0 : Int))) == litCmp BinOp.leq x1 x24) = true) →
                  (True) ∧
                  (False)) ∧
                 (((Prod.snd (Prod.snd (atC x31 x9 (0 : Int))) == litCmp BinOp.leq x1 x24) = false) →
                  ∀ x37 : Int,
                  (x37 = litArith BinOp.add IntKind.i64 x13 (1 : Int)) →
                  (x1 = x1) ∧
                  ((x2 = x2) ∧
                   (((↑(List.length x2) : Int) = (↑(List.length x2) : Int)) ∧
                    (((↑(List.length x2) : Int) = (↑(List.length x2) : Int)) ∧
                     ((x9 = x9) ∧
                      (((↑(List.length x9) : Int) = (↑(List.length x9) : Int)) ∧
                       ((x11 x37 (litCmp BinOp.leq x1 x24) x24 x26 x27 x28 x29 x30 x31 x32) ∧
                        (x12 x37 (litCmp BinOp.leq x1 x24) x24 x26 x27 x28 x29 x30 x31 x32 < x12 x13 x14 x15 x16 x17 x18 x19 x20 x21 x22))))))))))))))))) ∧
        ((litCmp BinOp.lss x13 (↑(List.length x2) : Int) = false) →
         ((u64ok (18446744073709551615 : Int)) ∧
          (∃ x38 : Wh,
           RepW x38 x16 x17 x18 x19 x20 x21 x22 x9)) ∧
         (∀ x39 : Int,
          ∀ x40 : Int,
          ∀ x41 : Int,
          ∀ x42 : Int,
          ∀ x43 : Int,
          ∀ x44 : List (Int × Int × Int),
          ∀ x45 : List (Int × Int × Int),
          ∀ x46 : List Int,
          (ToPost (18446744073709551615 : Int) x16 x17 x18 x19 x20 x21 x22 x9 x39 x40 x41 x42 x43 x44 x45 x46) →
          (((litCmp BinOp.eql (↑(List.length x46) : Int) (1 : Int) == !x14) = true) →
           (IsW x39 x40 x41 x42 x43 x44 x45 x9) ∧
           (True →
            (True) ∧
            ((litCmp BinOp.eql (lenW x40 x41 x42 x43 x45) (0 : Int) = true) ∧
             (True)))) ∧
          (((litCmp BinOp.eql (↑(List.length x46) : Int) (1 : Int) == !x14) = false) →
           (True) ∧
           (False)))))))))) := by
  rintro now at_ steps ⟨⟨⟨_, hn⟩, ha⟩, hs⟩
  have hn := u64_of hn
  have ha := u64_of ha
  simp only [gtrT, gtrF, lssT, lssF, leqT, leqF, geqT, geqF, eqlT, eqlF, neqT, neqF, true_and, and_true, true_implies, implies_true, Bool.not_eq_true', Bool.not_eq_false', bne_iff_ne, ne_eq, not_true_eq_false, not_false_eq_true, Int.toNat_natCast, same_self, reduceCtorEq, false_implies, List.nil_append]
  intro hlen
  have hu : ∀ n : Int, 0 ≤ n ∧ n < 18446744073709551616 → u64ok n := fun n h => h
  have h0 : RepW ([(false, 0, 0)], now) now 0 0 0 0 [((-1 : Int), (-1 : Int), (-1 : Int))] (List.replicate (258 : Nat) ((-1 : Int), (-1 : Int), (0 : Int))) [((0 : Int), (0 : Int))] := RepW.new (k := 1) hn
  refine ⟨hn, ⟨h0.is, ha, hu _ (by omega)⟩, ?_⟩
  intro a0 a1 a2 a3 L0 E0 M b hp
  obtain ⟨h1, e⟩ := h0.set ha (hu _ (by omega)) hp
  clear h0 hp
  rw [show setR ([(false, 0, 0)], now) 0 at_ 0 = (W1 false at_ now, true) from rfl] at h1 e
  subst e
  refine ⟨fun q => by simp at q, fun _ => ?_⟩
  refine ⟨fun k told time e d0 d1 d2 d3 L E => 0 ≤ k ∧ k ≤ steps.length ∧ e = time ∧ RepW (W1 told at_ time) time d0 d1 d2 d3 L E M ∧ (told = true → at_ ≤ time), fun k _ _ _ _ _ _ _ _ _ => ((steps.length : Int) - k).toNat, ⟨Int.le_refl _, Int.natCast_nonneg _, rfl, h1, fun q => by cases q⟩, ?_⟩
  rintro k told tm0 time d0 d1 d2 d3 L E ⟨k0, k1, he0, h, ht⟩
  subst he0
  refine ⟨fun hk => ⟨⟨k0, hk⟩, ?_⟩, fun hk => ⟨⟨hu _ (by omega), _, h⟩, ?_⟩⟩
  · rintro s hs' t rfl
    have hsu : u64ok s := by
      rw [hs']
      exact u64_ix hs k0 hk
    refine ⟨⟨hsu, _, h⟩, ?_⟩
    intro e f0 f1 f2 f3 L2 E2 o hp
    obtain ⟨h2, ho⟩ := hp _ h
    rw [(W1_to told at_ time s).1] at h2
    rw [(W1_to told at_ time s).2] at ho
    have he := h2.nw
    have hat := h2.at_ 0
    generalize hT : (if time < s then s else time) = t at *
    have htt : time ≤ t := by rw [← hT]; split <;> omega
    have he : t = e := he
    subst he
    have hadd : litArith .add .i64 k 1 = k + 1 := addI_ (by omega) (by omega)
    have hon : (atC L2 M 0).2.2 = !(told || decide (at_ ≤ t)) := by
      rw [hat]
      unfold wantR isR W1 ix
      cases (told || decide (at_ ≤ t)) <;> rfl
    have hol : (o.length : Int) = if !told && decide (at_ ≤ t) then 1 else 0 := by rw [ho]; split <;> rfl
    rw [hon, hol]
    cases told with
    | true =>
      have hd := ht rfl
      have hd : at_ ≤ t := by omega
      simp only [hd, decide_true, Bool.or_true, litCmp] at h2 ⊢
      simp [litCmp, hadd, h2.is, hd]
      have hg : (0 ≤ k + 1 ∧ k + 1 ≤ (steps.length : Int) ∧ RepW (W1 true at_ t) t f0 f1 f2 f3 L2 E2 M) ∧ max ((steps.length : Int) - (k + 1)) 0 < (steps.length : Int) - k := ⟨⟨by omega, by omega, h2⟩, by omega⟩
      exact ⟨hg, fun _ => hg⟩
    | false =>
      by_cases hd : at_ ≤ t
      · simp only [hd, decide_true, Bool.or_true] at h2 ⊢
        simp [litCmp, hadd, h2.is, hd]
        have hg : (0 ≤ k + 1 ∧ k + 1 ≤ (steps.length : Int) ∧ RepW (W1 true at_ t) t f0 f1 f2 f3 L2 E2 M) ∧ max ((steps.length : Int) - (k + 1)) 0 < (steps.length : Int) - k := ⟨⟨by omega, by omega, h2⟩, by omega⟩
        exact hg
      · simp only [hd, decide_false, Bool.or_false] at h2 ⊢
        simp [litCmp, hadd, h2.is, hd]
        have hg : (0 ≤ k + 1 ∧ k + 1 ≤ (steps.length : Int) ∧ RepW (W1 false at_ t) t f0 f1 f2 f3 L2 E2 M) ∧ max ((steps.length : Int) - (k + 1)) 0 < (steps.length : Int) - k := ⟨⟨by omega, by omega, h2⟩, by omega⟩
        exact fun _ => hg
  · intro e f0 f1 f2 f3 L2 E2 o hp
    obtain ⟨h2, ho⟩ := hp _ h
    rw [(W1_to told at_ time _).1] at h2
    rw [(W1_to told at_ time _).2] at ho
    have hle := h2.len_eq
    have htm := h.is.now
    have hT : at_ ≤ (if time < 18446744073709551615 then 18446744073709551615 else time) := by
      have := ha.2
      split <;> omega
    rw [hle]
    have hol : (o.length : Int) = if !told then 1 else 0 := by rw [ho]; simp only [hT, decide_true, Bool.and_true]; split <;> rfl
    rw [hol]
    simp only [hT, decide_true, Bool.or_true]
    refine ⟨fun _ => ⟨h2.is, by simp [W1, lenR, litCmp]⟩, ?_⟩
    cases told <;> simp [litCmp]
set_option maxRecDepth 10000 in
theorem far_ok : conFar.ok KK Try.prog 9 := by
  refine Con.of_vc ([(0, ⟨[], [(32, .d (.i .i64)), (8, .d .bo), (9, .d (.i .u64))], [(0, vW)], [0, 1], []⟩)]) ([]) TT_ok follows Try.func9 ?_ G39_ok (@toVC _ _ far_vc ?_)
  · kernel_rfl
  · kernel_rfl
noncomputable def G40 : List (FuncId × Con) := (9, conFar) :: G39
theorem G40_ok : GOK KK Try.prog G40 := GOK.cons (Callable.of Try.func9 (by kernel_rfl) (by kernel_rfl)) far_ok G39_ok
end Go.Proofs.Ytlkmdighjgpdlaa
/- Wheels whose alarms are known: the plain law. -/
namespace Go.Proofs.Ytlkmdighjgpdlaa
open Go Go.Fx
/-- Alarms of which some are set. -/
def setP (f : Nat → Int × Int) (n : Nat) (p : Nat → Bool) : List Mk := (List.range n).map fun i => if p i then (true, f i) else (false, 0, 0)
theorem setP_len {f : Nat → Int × Int} {n : Nat} {p : Nat → Bool} : (setP f n p).length = n := by simp [setP]
theorem setP_get {f : Nat → Int × Int} {n : Nat} {p : Nat → Bool} {i : Nat} (h : i < n) : (setP f n p)[i]? = some (if p i then (true, f i) else (false, 0, 0)) := by simp [setP, h]
theorem setP_ix {f : Nat → Int × Int} {n : Nat} {p : Nat → Bool} {i : Nat} (h : i < n) : ix (setP f n p) (i : Int) = if p i then (true, f i) else (false, 0, 0) := by
  unfold ix
  rw [List.getD_eq_getElem?_getD, Int.toNat_natCast, setP_get h]
  rfl
theorem setP_congr {f : Nat → Int × Int} {n : Nat} {p q : Nat → Bool} (h : ∀ i, i < n → p i = q i) : setP f n p = setP f n q := by
  apply List.ext_getElem?
  intro i
  by_cases hi : i < n
  · rw [setP_get hi, setP_get hi, h i hi]
  · rw [List.getElem?_eq_none (by rw [setP_len]; omega), List.getElem?_eq_none (by rw [setP_len]; omega)]
theorem setP_none {f : Nat → Int × Int} {n : Nat} : setP f n (fun _ => false) = List.replicate n (false, 0, 0) := by
  apply List.ext_getElem?
  intro i
  by_cases hi : i < n
  · rw [setP_get hi, List.getElem?_replicate, if_pos hi]; rfl
  · rw [List.getElem?_eq_none (by rw [setP_len]; omega), List.getElem?_replicate, if_neg hi]
theorem setP_set {f : Nat → Int × Int} {n : Nat} {p : Nat → Bool} {now : Int} {k : Nat} (hk : k < n) (hp : p k = false) : setR (setP f n p, now) k (f k).1 (f k).2 = ((setP f n (fun i => p i || i == k), now), true) := by
  unfold setR
  rw [if_neg (by
    simp only [setP_len, setP_ix hk, hp]
    simp
    omega)]
  unfold withR
  simp only [Int.toNat_natCast, Prod.mk.injEq, and_true]
  apply List.ext_getElem?
  intro i
  by_cases hi : i < n
  · rw [List.getElem?_set, setP_len, setP_get hi]
    by_cases e : k = i
    · subst e
      rw [setP_get hk]
      simp [hk]
    · rw [if_neg e, setP_get hi]
      have : (i == k) = false := by simpa using fun q => e q.symm
      simp [this]
  · rw [List.getElem?_eq_none (by rw [List.length_set, setP_len]; omega), List.getElem?_eq_none (by rw [setP_len]; omega)]
theorem setP_clr {f : Nat → Int × Int} {n : Nat} {p : Nat → Bool} {T : Int} : clr (setP f n p) T = setP f n (fun i => p i && !decide ((f i).1 ≤ T)) := by
  apply List.ext_getElem?
  intro i
  unfold clr
  rw [List.getElem?_map]
  by_cases hi : i < n
  · rw [setP_get hi, setP_get hi]
    unfold clrOne
    by_cases h1 : p i <;> by_cases h2 : (f i).1 ≤ T <;> simp [h1, h2]
  · rw [List.getElem?_eq_none (by rw [setP_len]; omega), List.getElem?_eq_none (by rw [setP_len]; omega)]; rfl
/-- Some of the alarms, by their numbers. -/
def numP (n : Nat) (q : Nat → Bool) : List Int := ((List.range n).filter q).map fun i : Nat => (i : Int)
def fI (f : Nat → Int × Int) (k : Int) : Int × Int := f k.toNat
def outP (f : Nat → Int × Int) (n : Nat) (q : Nat → Bool) : List Int := srt (cfM (fI f)) (numP n q)
theorem numP_mem {n : Nat} {q : Nat → Bool} {k : Int} : k ∈ numP n q ↔ ∃ i : Nat, k = i ∧ i < n ∧ q i = true := by
  unfold numP
  rw [List.mem_map]
  constructor
  · rintro ⟨i, hi, rfl⟩
    rw [List.mem_filter, List.mem_range] at hi
    exact ⟨i, rfl, hi.1, hi.2⟩
  · rintro ⟨i, rfl, h1, h2⟩
    exact ⟨i, by rw [List.mem_filter, List.mem_range]; exact ⟨h1, h2⟩, rfl⟩
theorem numP_nodup (n : Nat) (q : Nat → Bool) : (numP n q).Nodup := by
  unfold numP
  refine List.Pairwise.map _ (fun a b h => ?_) (List.Pairwise.filter _ (List.nodup_range (n := n)))
  intro e
  exact h (by omega)
theorem outP_mem {f : Nat → Int × Int} {n : Nat} {q : Nat → Bool} {k : Int} : k ∈ outP f n q ↔ ∃ i : Nat, k = i ∧ i < n ∧ q i = true := by unfold outP; rw [srt_mem, numP_mem]
theorem outP_nodup (f : Nat → Int × Int) (n : Nat) (q : Nat → Bool) : (outP f n q).Nodup := (srt_perm _ _).nodup_iff.2 (numP_nodup n q)
theorem outP_pair (f : Nat → Int × Int) (n : Nat) (q : Nat → Bool) : (outP f n q).Pairwise (ltM (fI f)) := srt_pair _ (numP_nodup n q)
theorem outP_congr {f : Nat → Int × Int} {n : Nat} {p q : Nat → Bool} (h : ∀ i, i < n → p i = q i) : outP f n p = outP f n q := by
  unfold outP numP
  rw [List.filter_congr fun i hi => h i (List.mem_range.1 hi)]
theorem outP_len (f : Nat → Int × Int) (n : Nat) (q : Nat → Bool) : (outP f n q).length ≤ n := by
  unfold outP numP
  rw [srt_length, List.length_map]
  exact Nat.le_trans (List.length_filter_le _ _) (by simp)
theorem outP_of {f : Nat → Int × Int} {n : Nat} {q : Nat → Bool} {l : List Int} (hm : ∀ k, k ∈ l ↔ ∃ i : Nat, k = i ∧ i < n ∧ q i = true) (hp : l.Pairwise (ltM (fI f))) : l = outP f n q := by
  have hn : l.Nodup := hp.imp fun h e => by subst e; exact ltM.irr h
  exact srt_eq (numP_nodup n q) ((List.perm_ext_iff_of_nodup hn (numP_nodup n q)).2 fun k => by rw [hm, numP_mem]) hp
theorem setP_to {f : Nat → Int × Int} {n : Nat} {p : Nat → Bool} {t0 to : Int} : toR (setP f n p, t0) to = (setP f n (fun i => p i && !decide ((f i).1 ≤ if t0 < to then to else t0)), if t0 < to then to else t0) ∧
    outR (setP f n p, t0) to = outP f n (fun i => p i && decide ((f i).1 ≤ if t0 < to then to else t0)) := by
  unfold toR outR nowR
  simp only
  generalize (if t0 < to then to else t0) = T
  refine ⟨by rw [setP_clr], ?_⟩
  have hm : ∀ k, k ∈ srt (cfM (mkAt (setP f n p))) (dueN (setP f n p) T (setP f n p).length) ↔ ∃ i : Nat, k = i ∧ i < n ∧ (p i && decide ((f i).1 ≤ T)) = true := fun k => by
    rw [srt_mem, dueN_mem, setP_len]
    constructor
    · rintro ⟨h0, h1, h2⟩
      obtain ⟨i, rfl⟩ := Int.eq_ofNat_of_zero_le h0
      have hi : i < n := by omega
      refine ⟨i, rfl, hi, ?_⟩
      unfold dueB at h2
      rw [setP_ix hi] at h2
      cases hp : p i with
      | false => rw [hp] at h2; simp at h2
      | true => rw [hp] at h2; simpa using h2
    · rintro ⟨i, rfl, hi, h⟩
      refine ⟨by omega, by omega, ?_⟩
      unfold dueB
      rw [setP_ix hi]
      simp only [Bool.and_eq_true] at h
      rw [h.1]
      simpa using h.2
  refine outP_of hm ?_
  refine (srt_pair (mkAt (setP f n p)) (dueN_nodup _ _ _)).imp_of_mem ?_
  intro a b ha hb hab
  obtain ⟨i, rfl, hi, h1⟩ := (hm a).1 ha
  obtain ⟨j, rfl, hj, h2⟩ := (hm b).1 hb
  simp only [Bool.and_eq_true] at h1 h2
  have ea : mkAt (setP f n p) (i : Int) = fI f i := by unfold mkAt fI; rw [setP_ix hi, h1.1, Int.toNat_natCast]; rfl
  have eb : mkAt (setP f n p) (j : Int) = fI f j := by unfold mkAt fI; rw [setP_ix hj, h2.1, Int.toNat_natCast]; rfl
  unfold ltM at hab ⊢
  rw [ea, eb] at hab
  exact hab
/-- Those of one step stand ahead of those of the next one. -/
theorem outP_app {f : Nat → Int × Int} {n : Nat} {q : Nat → Bool} {T T' : Int} (h : T ≤ T') : outP f n (fun i => q i && decide ((f i).1 ≤ T)) ++ outP f n (fun i => (q i && !decide ((f i).1 ≤ T)) && decide ((f i).1 ≤ T')) = outP f n (fun i => q i && decide ((f i).1 ≤ T')) := by
  refine outP_of (fun k => ?_) (List.pairwise_append.2 ⟨outP_pair _ _ _, outP_pair _ _ _, fun a ha b hb => ?_⟩)
  · rw [List.mem_append, outP_mem, outP_mem]
    constructor
    · rintro (⟨i, rfl, hi, h1⟩ | ⟨i, rfl, hi, h1⟩)
      · refine ⟨i, rfl, hi, ?_⟩
        simp only [Bool.and_eq_true, decide_eq_true_eq] at h1 ⊢
        exact ⟨h1.1, by omega⟩
      · refine ⟨i, rfl, hi, ?_⟩
        simp only [Bool.and_eq_true, decide_eq_true_eq] at h1 ⊢
        exact ⟨h1.1.1, h1.2⟩
    · rintro ⟨i, rfl, hi, h1⟩
      simp only [Bool.and_eq_true, decide_eq_true_eq] at h1
      by_cases c : (f i).1 ≤ T
      · exact .inl ⟨i, rfl, hi, by simp [h1.1, c]⟩
      · exact .inr ⟨i, rfl, hi, by simp [h1.1, h1.2, c]⟩
  · obtain ⟨i, rfl, hi, h1⟩ := outP_mem.1 ha
    obtain ⟨j, rfl, hj, h2⟩ := outP_mem.1 hb
    simp only [Bool.and_eq_true, decide_eq_true_eq, Bool.not_eq_true', decide_eq_false_iff_not] at h1 h2
    unfold ltM fI
    simp only [Int.toNat_natCast]
    omega
end Go.Proofs.Ytlkmdighjgpdlaa
/- Two wheels side by side: patterns; numbers that are cut. -/
namespace Go.Proofs.Ytlkmdighjgpdlaa
open Go Go.Fx
def vWb : VP := .ls [.is (.lp 3 0), .is (.own 5), .d (.i .u64), .d (.i .i64), .d (.i .i64), .d (.i .i64), .d (.i .i64)]
theorem wrapU_ok (x : Int) : u64ok (IntKind.wrap .u64 x) := by
  show u64ok (if (false && decide (x % 18446744073709551616 ≥ (2 ^ 63 : Int))) = true then x % 18446744073709551616 - 18446744073709551616 else x % 18446744073709551616)
  rw [Bool.false_and, if_neg (by simp)]
  unfold u64ok
  omega
theorem addU_ok (x y : Int) : u64ok (litArith .add .u64 x y) := wrapU_ok _
theorem mask62 {x : Int} (h : u64ok x) : litArith .and .u64 x 4611686018427387903 = x % 4611686018427387904 := by
  have := andM_ (x := x) 62 (by omega) h.1 h.2
  have e1 : ((2 ^ 62 - 1 : Nat) : Int) = 4611686018427387903 := by decide
  have e2 : ((2 ^ 62 : Nat) : Int) = 4611686018427387904 := by decide
  rw [e1, e2] at this
  exact this
theorem cutN {n : Nat} (h : n ≤ 4096) : cut4096 (n : Int) = n := by
  unfold cut4096
  rw [if_neg (by omega), if_neg (by omega)]
  simp
theorem new_P (f : Nat → Int × Int) {n : Nat} (h : n ≤ 4096) : List.replicate (cut4096 (n : Int)) (false, 0, 0) = setP f n (fun i => decide (i < 0)) := by
  rw [cutN h, ← setP_none (f := f)]
  exact setP_congr fun i _ => by simp
theorem set_P {f : Nat → Int × Int} {n : Nat} {now : Int} {m : Nat} (h : m < n) : setR (setP f n (fun i => decide (i < m)), now) m (f m).1 (f m).2 = ((setP f n (fun i => decide (i < m + 1)), now), true) := by
  rw [setP_set h (by simp)]
  congr 2
  refine setP_congr fun i _ => ?_
  by_cases h1 : i < m
  · simp [h1]; omega
  · by_cases h2 : i = m
    · simp [h2]
    · have : ¬ i < m + 1 := by omega
      simp [h1, h2, this]
theorem all_P {f : Nat → Int × Int} {n : Nat} : setP f n (fun i => decide (i < n)) = setP f n (fun _ => true) := setP_congr fun i h => by simp [h]
/-- All alarms of a time that is gone are told. -/
def leftP (f : Nat → Int × Int) (n : Nat) (T : Int) : List Mk := setP f n (fun i => true && !decide ((f i).1 ≤ T))
def toldP (f : Nat → Int × Int) (n : Nat) (T : Int) : List Int := outP f n (fun i => true && decide ((f i).1 ≤ T))
theorem left_to {f : Nat → Int × Int} {n : Nat} {T to : Int} : toR (leftP f n T, T) to = (leftP f n (if T < to then to else T), if T < to then to else T) ∧ toldP f n T ++ outR (leftP f n T, T) to = toldP f n (if T < to then to else T) := by
  have hT : T ≤ if T < to then to else T := by split <;> omega
  unfold leftP toldP
  rw [setP_to.1, setP_to.2]
  generalize (if T < to then to else T) = T' at hT
  refine ⟨?_, outP_app hT⟩
  congr 1
  refine setP_congr fun i _ => ?_
  by_cases h : (f i).1 ≤ T
  · have : (f i).1 ≤ T' := by omega
    simp [h, this]
  · simp [h]
theorem all_to {f : Nat → Int × Int} {n : Nat} {t0 to : Int} : toR (setP f n (fun _ => true), t0) to = (leftP f n (if t0 < to then to else t0), if t0 < to then to else t0) ∧ outR (setP f n (fun _ => true), t0) to = toldP f n (if t0 < to then to else t0) := setP_to
theorem toldP_len (f : Nat → Int × Int) (n : Nat) (T : Int) : (toldP f n T).length ≤ n := outP_len _ _ _
end Go.Proofs.Ytlkmdighjgpdlaa
/- The laws of package wheel: WheelTurns. -/
namespace Go.Proofs.Ytlkmdighjgpdlaa
open Go Go.Fx

theorem scan_all {at_ : Int → Int} : ∀ {s : Nat}, (scan (fun _ => true) at_ s).2 = decide (0 < s) ∧ (0 < s → (∃ i : Nat, i < s ∧ (scan (fun _ => true) at_ s).1 = at_ i) ∧ ∀ i : Nat, i < s → (scan (fun _ => true) at_ s).1 ≤ at_ i)
  | 0 => ⟨rfl, fun h => by omega⟩
  | s + 1 => by
    obtain ⟨h1, h2⟩ := scan_all (at_ := at_) (s := s)
    unfold scan
    simp only [Bool.true_and]
    split
    · rename_i hc
      refine ⟨by simp, fun _ => ⟨⟨s, by omega, rfl⟩, fun i hi => ?_⟩⟩
      by_cases e : i = s
      · rw [e]; exact Int.le_refl _
      · have hs : 0 < s := by omega
        have := (h2 hs).2 i (by omega)
        rw [h1] at hc
        simp [hs] at hc
        show at_ s ≤ at_ i
        omega
    · rename_i hc
      rw [h1] at hc
      by_cases hs : 0 < s
      · simp [hs] at hc
        obtain ⟨⟨i, hi, e⟩, hmin⟩ := h2 hs
        refine ⟨by rw [h1]; simp [hs], fun _ => ⟨⟨i, by omega, e⟩, fun j hj => ?_⟩⟩
        by_cases c : j = s
        · rw [c]; exact hc
        · exact hmin j (by omega)
      · simp [hs] at hc
theorem scan_setP {f : Nat → Int × Int} {n : Nat} : scan (fun k => (ix (setP f n (fun _ => true)) k).1) (fun k => (ix (setP f n (fun _ => true)) k).2.1) n = scan (fun _ => true) (fun k => (fI f k).1) n := by
  refine scan_congr fun i hi => ?_
  simp only [setP_ix hi, if_true, fI, Int.toNat_natCast]
  exact ⟨trivial, fun _ => trivial⟩
set_option maxRecDepth 10000 in
theorem turns_vc :
  ∀ x0 : Int,
  ∀ x1 : List Int,
  ∀ x2 : Int,
  ((((True) ∧
      (Fits (Tp.i IntKind.u64) x0)) ∧
     (Fits (Tp.sl (Tp.i IntKind.u64)) x1)) ∧
    (Fits (Tp.i IntKind.u64) x2)) →
  (True) ∧
  (True →
   ((litCmp BinOp.gtr (↑(List.length x1) : Int) (64 : Int) = true) →
    (True) ∧
    (True)) ∧
   ((litCmp BinOp.gtr (↑(List.length x1) : Int) (64 : Int) = false) →
    ((litCmp BinOp.gtr x0 (4611686018427387904 : Int) = true) →
     (True) ∧
     (True)) ∧
    ((litCmp BinOp.gtr x0 (4611686018427387904 : Int) = false) →
     ∀ x3 : Int,
     (x3 = litArith BinOp.and IntKind.u64 x2 (4611686018427387903 : Int)) →
     ∀ x4 : Int,
     (x4 = litArith BinOp.add IntKind.u64 x0 x3) →
     (u64ok x0) ∧
     (True →
      (u64ok x0) ∧
      (True →
       ∃ x5 : Int → Int → Int → Int → Int → Int → Int → Int → Int → Int → Int → List (Int × (Int × Int)) → List (Int × (Int × Int)) → List (Int × Int) → List (Int × (Int × Int)) → List (Int × (Int × Int)) → List (Int × Int) → Prop,
       ∃ x6 : Int → Int → Int → Int → Int → Int → Int → Int → Int → Int → Int → List (Int × (Int × Int)) → List (Int × (Int × Int)) → List (Int × Int) → List (Int × (Int × Int)) → List (Int × (Int × Int)) → List (Int × Int) → Nat,
       (x5 (0 : Int) x0 (0 : Int) (0 : Int) (0 : Int) (0 : Int) x0 (0 : Int) (0 : Int) (0 : Int) (0 : Int) (List.replicate (cut4096 (↑(List.length x1) : Int)) ((-1 : Int), (-1 : Int), (-1 : Int))) (List.replicate (258 : Nat) ((-1 : Int), (-1 : Int), (0 : Int))) (List.replicate (cut4096 (↑(List.length x1) : Int)) ((0 : Int), (0 : Int))) (List.replicate (cut4096 (↑(List.length x1) : Int)) ((-1 : Int), (-1 : Int), (-1 : Int))) (List.replicate (258 : Nat) ((-1 : Int), (-1 : Int), (0 : Int))) (List.replicate (cut4096 (↑(List.length x1) : Int)) ((0 : Int), (0 : Int)))) ∧
       (∀ x7 : Int,
        ∀ x8 : Int,
        ∀ x9 : Int,
        ∀ x10 : Int,
        ∀ x11 : Int,
        ∀ x12 : Int,
        ∀ x13 : Int,
        ∀ x14 : Int,
        ∀ x15 : Int,
        ∀ x16 : Int,
        ∀ x17 : Int,
        ∀ x18 : List (Int × (Int × Int)),
        ∀ x19 : List (Int × (Int × Int)),
        ∀ x20 : List (Int × Int),
        ∀ x21 : List (Int × (Int × Int)),
        ∀ x22 : List (Int × (Int × Int)),
        ∀ x23 : List (Int × Int),
        (x5 x7 x8 x9 x10 x11 x12 x13 x14 x15 x16 x17 x18 x19 x20 x21 x22 x23) →
        ((litCmp BinOp.lss x7 (↑(List.length x1) : Int) = true) →
         ∀ x24 : Int,
         (x24 = litArith BinOp.sub IntKind.i64 (↑(List.length x1) : Int) (1 : Int)) →
         ∀ x25 : Int,
         (x25 = litArith BinOp.sub IntKind.i64 x24 x7) →
         (((0 : Int) ≤ x7) ∧
          (x7 < (↑(List.length x1) : Int))) ∧
         ((((0 : Int) ≤ x7) ∧
           (x7 < (↑(List.length x1) : Int))) ∧
          (((IsW x8 x9 x10 x11 x12 x18 x19 x20) ∧
            ((u64ok (litArith BinOp.add IntKind.u64 x0 (litArith BinOp.and IntKind.u64 (ix x1 x7) (4611686018427387903 : Int)))) ∧
             (u64ok (litArith BinOp.and IntKind.u64 (ix x1 x7) (3 : Int))))) ∧
           (∀ x26 : Int,
            ∀ x27 : Int,
            ∀ x28 : Int,
            ∀ x29 : Int,
            ∀ x30 : List (Int × (Int × Int)),
            ∀ x31 : List (Int × (Int × Int)),
            ∀ x32 : List (Int × Int),
            ∀ x33 : Bool,
            (SetPost x7 (litArith BinOp.add IntKind.u64 x0 (litArith BinOp.and IntKind.u64 (ix x1 x7) (4611686018427387903 : Int))) (litArith BinOp.and IntKind.u64 (ix x1 x7) (3 : Int)) x8 x9 x10 x11 x12 x18 x19 x20 x26 x27 x28 x29 x30 x31 x32 x33) →
            (((0 : Int) ≤ x25) ∧
             (x25 < (↑(List.length x1) : Int))) ∧
            ((((0 : Int) ≤ x25) ∧
              (x25 < (↑(List.length x1) : Int))) ∧
             (((IsW x13 x14 x15 x16 x17 x21 x22 x23) ∧
               ((u64ok (litArith BinOp.add IntKind.u64 x0 (litArith BinOp.and IntKind.u64 (ix x1 x25) (4611686018427387903 : Int)))) ∧
                (u64ok (litArith BinOp.and IntKind.u64 (ix x1 x25) (3 : Int))))) ∧
              (∀ x34 : Int,
               ∀ x35 : Int,
               ∀ x36 : Int,
               ∀ x37 : Int,
               ∀ x38 : List (Int × (Int × Int)),
               ∀ x39 : List (Int × (Int × Int)),
               ∀ x40 : List (Int × Int),
               ∀ x41 : Bool,
               (SetPost x25 (litArith BinOp.add IntKind.u64 x0 (litArith BinOp.and IntKind.u64 (ix x1 x25) (4611686018427387903 : Int))) (litArith BinOp.and IntKind.u64 (ix x1 x25) (3 : Int)) x13 x14 x15 x16 x17 x21 x22 x23 x34 x35 x36 x37 x38 x39 x40 x41) →
               ∀ x42 : Int,
               (x42 = litArith BinOp.add IntKind.i64 x7 (1 : Int)) →
               (x0 = x0) ∧
               ((x1 = x1) ∧
                (((↑(List.length x1) : Int) = (↑(List.length x1) : Int)) ∧
                 ((x4 = x4) ∧
                  (((↑(List.length x1) : Int) = (↑(List.length x1) : Int)) ∧
                   ((x5 x42 x8 x26 x27 x28 x29 x13 x34 x35 x36 x37 x30 x31 x32 x38 x39 x40) ∧
                    (x6 x42 x8 x26 x27 x28 x29 x13 x34 x35 x36 x37 x30 x31 x32 x38 x39 x40 < x6 x7 x8 x9 x10 x11 x12 x13 x14 x15 x16 x17 x18 x19 x20 x21 x22 x23))))))))))))) ∧
        ((litCmp BinOp.lss x7 (↑(List.length x1) : Int) = false) →
         (IsW x8 x9 x10 x11 x12 x18 x19 x20) ∧
         (True →
          ((u64ok x4) ∧
           (∃ x43 : Wh,
            RepW x43 x8 x9 x10 x11 x12 x18 x19 x20)) ∧
          (∀ x44 : Int,
           ∀ x45 : Int,
           ∀ x46 : Int,
           ∀ x47 : Int,
           ∀ x48 : Int,
           ∀ x49 : List (Int × (Int × Int)),
           ∀ x50 : List (Int × (Int × Int)),
           ∀ x51 : List Int,
           (ToPost x4 x8 x9 x10 x11 x12 x18 x19 x20 x44 x45 x46 x47 x48 x49 x50 x51) →
           ((u64ok x4) ∧
            (∃ x52 : Wh,
             RepW x52 x13 x14 x15 x16 x17 x21 x22 x23)) ∧
           (∀ x53 : Int,
            ∀ x54 : Int,
            ∀ x55 : Int,
            ∀ x56 : Int,
            ∀ x57 : Int,
            ∀ x58 : List (Int × (Int × Int)),
            ∀ x59 : List (Int × (Int × Int)),
            ∀ x60 : List Int,
            (ToPost x4 x13 x14 x15 x16 x17 x21 x22 x23 x53 x54 x55 x56 x57 x58 x59 x60) →
            (List.length x51 ≤ (1000000 : Nat)) ∧
            (True →
             (((!same x51 x60) = true) →
              (True) ∧
              (False)) ∧
             (((!same x51 x60) = false) →
              (((!Prod.snd (scan (fun (k : Int) => Prod.snd (onC x18 k)) (fun (k : Int) => Prod.fst (ix x20 k)) (List.length x20)) == litCmp BinOp.gtr (↑(List.length x1) : Int) (0 : Int)) = true) →
               (True) ∧
               (False)) ∧
              (((!Prod.snd (scan (fun (k : Int) => Prod.snd (onC x18 k)) (fun (k : Int) => Prod.fst (ix x20 k)) (List.length x20)) == litCmp BinOp.gtr (↑(List.length x1) : Int) (0 : Int)) = false) →
               ((litCmp BinOp.eql (↑(List.length x51) : Int) (0 : Int) = true) →
                (((!Prod.snd (scan (fun (k : Int) => Prod.snd (onC x18 k)) (fun (k : Int) => Prod.fst (ix x20 k)) (List.length x20))) = true) →
                 (True) ∧
                 (True)) ∧
                (((!Prod.snd (scan (fun (k : Int) => Prod.snd (onC x18 k)) (fun (k : Int) => Prod.fst (ix x20 k)) (List.length x20))) = false) →
                 (True) ∧
                 ((litCmp BinOp.gtr (Prod.fst (scan (fun (k : Int) => Prod.snd (onC x18 k)) (fun (k : Int) => Prod.fst (ix x20 k)) (List.length x20))) x4 = true) ∧
                  (True)))) ∧
               ((litCmp BinOp.eql (↑(List.length x51) : Int) (0 : Int) = false) →
                (((0 : Int) ≤ (0 : Int)) ∧
                 ((0 : Int) < (↑(List.length x51) : Int))) ∧
                (∀ x61 : Int,
                 (x61 = ix x51 (0 : Int)) →
                 ((litCmp BinOp.geq x61 (0 : Int) = true) →
                  (((0 : Int) ≤ (0 : Int)) ∧
                   ((0 : Int) < (↑(List.length x51) : Int))) ∧
                  (∀ x62 : Int,
                   (x62 = ix x51 (0 : Int)) →
                   ((litCmp BinOp.lss x62 (↑(List.length x1) : Int) = true) →
                    (((0 : Int) ≤ (0 : Int)) ∧
                     ((0 : Int) < (↑(List.length x51) : Int))) ∧
                    (∀ x63 : Int,
                     (x63 = ix x51 (0 : Int)) →
                     (((0 : Int) ≤ x63) ∧
                      (x63 < (↑(List.length x1) : Int))) ∧
                     (∀ x64 : Int,
                      (x64 = ix x1 x63) →
                      ∀ x65 : Int,
                      (x65 = litArith BinOp.and IntKind.u64 x64 (4611686018427387903 : Int)) →
                      ∀ x66 : Int,
                      (x66 = litArith BinOp.add IntKind.u64 x0 x65) →
                      (True) ∧
                      ((litCmp BinOp.eql (Prod.fst (scan (fun (k : Int) => Prod.snd (onC x18 k)) (fun (k : Int) => Prod.fst (ix x20 k)) (List.length x20))) x66 = true) ∧
                       (True))))) ∧
                   ((litCmp BinOp.lss x62 (↑(List.length x1) : Int) = false) →
                    (True) ∧
                    (False)))) ∧
                 ((litCmp BinOp.geq x61 (0 : Int) = false) →
                  (True) ∧
                  (False))))))))))))))))) := by
  rintro now gaps en ⟨⟨⟨_, hn⟩, hg⟩, he⟩
  have hn := u64_of hn
  have he := u64_of he
  simp only [gtrT, gtrF, lssT, lssF, leqT, leqF, geqT, geqF, eqlT, eqlF, neqT, neqF, true_and, and_true, true_implies, implies_true, Bool.not_eq_true', Bool.not_eq_false', bne_iff_ne, ne_eq, not_true_eq_false, not_false_eq_true, Int.toNat_natCast, same_self, reduceCtorEq, false_implies, List.nil_append]
  intro hl1 hl3
  rintro m0 hm0 stop hstop
  rw [mask62 he] at hm0
  have hnow := hn.1
  have hstop : stop = now + m0 := by rw [hstop]; exact addU_ (by omega) (by omega)
  have hle : now ≤ stop := by omega
  have hsu : u64ok stop := ⟨by omega, by omega⟩
  obtain ⟨n, hlen⟩ : ∃ n, gaps.length = n := ⟨_, rfl⟩
  obtain ⟨f, hf⟩ : ∃ f : Nat → Int × Int, f = fun i : Nat => (litArith .add .u64 now (litArith .and .u64 (ix gaps (i : Int)) 4611686018427387903), litArith .and .u64 (ix gaps (i : Int)) 3) := ⟨_, rfl⟩
  have hfi : ∀ i : Nat, f i = (litArith .add .u64 now (litArith .and .u64 (ix gaps (i : Int)) 4611686018427387903), litArith .and .u64 (ix gaps (i : Int)) 3) := fun i => by rw [hf]
  have hz : ∀ x : Int, u64ok (litArith .and .u64 x 3) := fun x => wrapU_ok _
  have h0 : RepW (setP f n (fun i => decide (i < 0)), now) now 0 0 0 0 (List.replicate (cut4096 ((List.length gaps : Nat) : Int)) ((-1 : Int), (-1 : Int), (-1 : Int))) (List.replicate (258 : Nat) ((-1 : Int), (-1 : Int), (0 : Int))) (List.replicate (cut4096 ((List.length gaps : Nat) : Int)) ((0 : Int), (0 : Int))) := by
    rw [hlen, ← new_P f (n := n) (by omega)]
    exact RepW.new hn
  have h0' : RepW (setP f n (fun i => decide (n ≤ i + 0)), now) now 0 0 0 0 (List.replicate (cut4096 ((List.length gaps : Nat) : Int)) ((-1 : Int), (-1 : Int), (-1 : Int))) (List.replicate (258 : Nat) ((-1 : Int), (-1 : Int), (0 : Int))) (List.replicate (cut4096 ((List.length gaps : Nat) : Int)) ((0 : Int), (0 : Int))) := by
    rw [setP_congr (q := fun i => decide (i < 0)) fun i hi => by
      have : ¬ n ≤ i := by omega
      simp [this]]
    exact h0
  refine ⟨hn, hn, ?_⟩
  refine ⟨fun k e d0 d1 d2 d3 e' g0 g1 g2 g3 L E M L' E' M' => ∃ m : Nat, k = m ∧ m ≤ n ∧ RepW (setP f n (fun i => decide (i < m)), now) e d0 d1 d2 d3 L E M ∧ RepW (setP f n (fun i => decide (n ≤ i + m)), now) e' g0 g1 g2 g3 L' E' M', fun k _ _ _ _ _ _ _ _ _ _ _ _ _ _ _ _ => ((n : Int) - k).toNat, ⟨0, rfl, Nat.zero_le _, h0, h0'⟩, ?_⟩
  rintro k e d0 d1 d2 d3 e' g0 g1 g2 g3 L E M L' E' M' ⟨m, rfl, hm, ha, hb⟩
  rw [hlen]
  refine ⟨fun hk => ?_, fun hk => ?_⟩
  · have hmn : m < n := by omega
    have hset := set_P (f := f) (now := now) hmn
    rw [hfi m] at hset
    simp only at hset
    have hset2 := setP_set (f := f) (now := now) (n := n) (p := fun i => decide (n ≤ i + m)) (k := n - 1 - m) (by omega) (by simp; omega)
    rw [hfi (n - 1 - m)] at hset2
    simp only at hset2
    have hs1 : litArith .sub .i64 (n : Int) 1 = n - 1 := subI_ (by omega) (by omega)
    have hs2 : litArith .sub .i64 ((n : Int) - 1) (m : Int) = ((n - 1 - m : Nat) : Int) := by rw [subI_ (by omega) (by omega)]; omega
    rintro _ rfl _ rfl
    rw [hs1, hs2]
    refine ⟨⟨by omega, hk⟩, ⟨by omega, hk⟩, ⟨ha.is, addU_ok _ _, hz _⟩, ?_⟩
    intro a0 a1 a2 a3 L1 E1 M1 b1 hp
    obtain ⟨h1, _⟩ := ha.set (addU_ok _ _) (hz _) hp
    rw [hset] at h1
    refine ⟨⟨by omega, by omega⟩, ⟨by omega, by omega⟩, ⟨hb.is, addU_ok _ _, hz _⟩, ?_⟩
    intro a4 a5 a6 a7 L2 E2 M2 b2 hp2
    obtain ⟨h2, _⟩ := hb.set (addU_ok _ _) (hz _) hp2
    rw [hset2] at h2
    have h3 : RepW (setP f n (fun i => decide (n ≤ i + (m + 1))), now) e' a4 a5 a6 a7 L2 E2 M2 := by
      rw [setP_congr (q := fun i => decide (n ≤ i + m) || i == n - 1 - m) fun i hi => by
        by_cases c : n ≤ i + m
        · have : n ≤ i + (m + 1) := by omega
          simp only [c, this, decide_true, Bool.true_or]
        · by_cases c2 : i = n - 1 - m
          · have : n ≤ i + (m + 1) := by omega
            have c3 : (i == n - 1 - m) = true := by simpa using c2
            simp only [this, c3, decide_true, Bool.or_true]
          · have : ¬ n ≤ i + (m + 1) := by omega
            have c3 : (i == n - 1 - m) = false := by simpa using c2
            simp only [c, c3, this, decide_false, Bool.or_false]]
      exact h2
    rintro _ rfl
    rw [addI_ (by omega) (by omega)]
    exact ⟨⟨m + 1, by omega, by omega, h1, h3⟩, meas hk⟩
  · obtain rfl : m = n := by omega
    rw [all_P] at ha
    rw [setP_congr (q := fun _ => true) fun i hi => by simp] at hb
    refine ⟨ha.is, ⟨hsu, _, ha⟩, ?_⟩
    intro e1 a0 a1 a2 a3 L1 E1 o1 hp
    obtain ⟨h1, ho1⟩ := hp _ ha
    refine ⟨⟨hsu, _, hb⟩, ?_⟩
    intro e2 b0 b1 b2 b3 L2 E2 o2 hp2
    obtain ⟨h2, ho2⟩ := hp2 _ hb
    have hTn : (if now < stop then stop else now) = stop := by split <;> omega
    rw [all_to.2, hTn] at ho1 ho2
    have hlm := toldP_len f m stop
    have hfst := ha.first
    simp only [setP_len] at hfst
    rw [scan_setP] at hfst
    obtain ⟨q1, q2⟩ := scan_all (at_ := fun k => (fI f k).1) (s := m)
    rw [hfst]
    generalize scan (fun _ => true) (fun k => (fI f k).1) m = S at q1 q2
    refine ⟨by rw [ho1]; omega, fun q => by rw [ho1, ho2, same_self] at q; simp at q, fun _ => ⟨fun q => ?_, fun _ => ⟨fun hz0 => ?_, fun hnz => ?_⟩⟩⟩
    · rw [q1] at q
      by_cases c : 0 < m <;> simp [c, litCmp] at q
    · intro hs
      rw [q1] at hs
      simp at hs
      obtain ⟨⟨i, hi, hSi⟩, _⟩ := q2 hs
      rw [hSi]
      refine Classical.byContradiction fun c => ?_
      have : ((i : Nat) : Int) ∈ toldP f m stop := outP_mem.2 ⟨i, rfl, hi, by simp [fI] at c ⊢; exact c⟩
      rw [← ho1, List.eq_nil_of_length_eq_zero (by omega : o1.length = 0)] at this
      cases this
    · have hpos : (0 : Int) < o1.length := by omega
      refine ⟨⟨Int.le_refl _, hpos⟩, ?_⟩
      rintro x hx
      have hxm : x ∈ toldP f m stop := by rw [← ho1, hx]; exact ix_mem (Int.le_refl _) hpos
      obtain ⟨i, hxi, hi, hti⟩ := outP_mem.1 hxm
      refine ⟨fun _ => ⟨⟨Int.le_refl _, hpos⟩, ?_⟩, fun q => by omega⟩
      rintro y hy
      rw [← hx] at hy
      subst hy
      refine ⟨fun _ => ⟨⟨Int.le_refl _, hpos⟩, ?_⟩, fun q => by omega⟩
      rintro z hz'
      rw [← hx] at hz'
      subst hz'
      refine ⟨⟨by omega, by omega⟩, ?_⟩
      rintro _ rfl _ rfl _ rfl
      subst hxi
      have hfe : litArith .add .u64 now (litArith .and .u64 (ix gaps (i : Int)) 4611686018427387903) = (f i).1 := by rw [hfi]
      rw [hfe]
      obtain ⟨⟨j, hj, hSj⟩, hmin⟩ := q2 (by omega)
      have h3 := hmin i hi
      simp only [Bool.true_and, decide_eq_true_eq] at hti
      rw [hSj] at h3 ⊢
      simp only [fI, Int.toNat_natCast] at h3 ⊢
      have hjm : ((j : Nat) : Int) ∈ toldP f m stop := outP_mem.2 ⟨j, rfl, hj, by simp; omega⟩
      have hpair := outP_pair f m (fun i => true && decide ((f i).1 ≤ stop))
      have h4 : (f i).1 ≤ (f j).1 := by
        have hcons : ∃ t, toldP f m stop = (i : Int) :: t := by
          have hne : o1 ≠ [] := fun q => by rw [q] at hpos; simp at hpos
          obtain ⟨a, t, hat⟩ := List.exists_cons_of_ne_nil hne
          refine ⟨t, ?_⟩
          rw [← ho1, hat]
          rw [hat] at hx
          simp [ix] at hx
          rw [hx]
        obtain ⟨t, ht⟩ := hcons
        rw [show outP f m (fun i => true && decide ((f i).1 ≤ stop)) = toldP f m stop from rfl, ht, List.pairwise_cons] at hpair
        rw [ht] at hjm
        rcases List.mem_cons.1 hjm with e | hjt
        · have : j = i := by omega
          rw [this]; exact Int.le_refl _
        · have := hpair.1 _ hjt
          unfold ltM fI at this
          simp only [Int.toNat_natCast] at this
          omega
      omega
set_option maxRecDepth 10000 in
theorem turns_ok : conTurns.ok KK Try.prog 7 := by
  refine Con.of_vc ([(0, ⟨[], [(37, .d (.i .i64))], [(0, vW), (2, vWb)], [0, 1, 2, 3, 4, 5], []⟩)]) ([]) TT_ok follows Try.func7 ?_ G39_ok (@toVC _ _ turns_vc ?_)
  · kernel_rfl
  · kernel_rfl
noncomputable def G43 : List (FuncId × Con) := (7, conTurns) :: G39
theorem G43_ok : GOK KK Try.prog G43 := GOK.cons (Callable.of Try.func7 (by kernel_rfl) (by kernel_rfl)) turns_ok G39_ok
end Go.Proofs.Ytlkmdighjgpdlaa
/- The row of WheelTurns. -/
namespace Go.Proofs.Ytlkmdighjgpdlaa.wheelTurnsDone
open Go Go.ChangeShapes Go.WideShapes Go.ChangeAt Go.RowKit Go.Joins Go.Fx

theorem own : ownKnob Try.prog.godebug = none := by kernel_rfl
theorem laidOut : laidOutB Try.prog = true := by kernel_rfl
set_option maxRecDepth 100000 in
theorem lifted (os : Os) (started : os.Started) (H : Type) (enc : TypeId × Value → H) :
    ReturnsInHanded {} Try.checked os 7 .any (Rows.wheelTurnsSpec.pre6 enc Try.prog Try.f7 Rows.wheelTurnsRow.domain false) (Rows.wheelTurnsSpec.post enc Try.prog Try.f7 false true false false) := by
  refine returnsInHanded_of_change (C := Try.checked) own started (by kernel_rfl) Try.func7
    (ChangeSpec.witness6 (enc := enc) (C := Try.checked) false ⟨#[], #[.int .u64 0, .slice none 0 0, .int .u64 0], []⟩ 8 (by kernel_rfl) (by kernel_rfl) (by kernel_rfl) (by kernel_rfl)) ?_
  intro W base args ds gs before hval hW hcnd _
  have hW' := hW
  obtain ⟨p, q, hA, hV, rfl, hfz, hnd⟩ := hW
  obtain ⟨rfl, rfl⟩ := trodVars_none hV
  obtain ⟨us, h1, h2, h3⟩ := rowIn (d := 8) ([.i .u64, .sl (.i .u64), .i .u64]) hA (by kernel_rfl) (fun j t v ht hv => hval j t v (by simpa using ht) (by simpa using hv))
  have hc := lawT_walk turns_ok us h1 h2 W _ h3
  rw [Array.toArray_toList] at hc
  have hA' := hA
  rw [Try.params7] at hA'
  obtain ⟨v0, vs0, d0, ds0, p0, q0, e0, rfl, rfl, _, r0⟩ := trodAll_cons hA'
  obtain ⟨v1, vs1, d1, ds1, p1, q1, e1, rfl, rfl, _, r1⟩ := trodAll_cons r0
  obtain ⟨v2, vs2, d2, ds2, p2, q2, e2, rfl, rfl, _, r2⟩ := trodAll_cons r1
  obtain ⟨_, rfl, rfl⟩ := trodAll_nil r2
  refine hc.mono fun e W' ⟨he, bel⟩ => ?_
  subst he
  exact ⟨_, rfl, _, _, _, [], _, [], hW', trodAll_mk1 (shut_bool Try.underlying4 _), rowOut laidOut bel (by kernel_rfl) hA, rfl, bel.frame _, fun h => by cases h⟩

theorem over : Rows.wheelTurnsRow.holds Try.pinned (OpenSpec.ofChange Rows.wheelTurnsSpec) :=
  OpenClaim.holds_of_wide 7 Try.f7 rfl rfl rfl rfl rfl rfl rfl ⟨rfl, rfl, rfl, rfl, rfl⟩ rfl rfl rfl rfl rfl (by kernel_rfl) Try.func7 (by kernel_rfl)
    (of_decide_eq_true (by kernel_rfl)) (by unfold Func.isWrapper; first | (rw [if_pos (by decide +kernel)]; kernel_rfl) | (rw [if_neg (by decide +kernel)]; exact ⟨rfl, rfl⟩))
    (fun os started H enc _ => lifted os started H enc)

/-- The statement. -/
theorem proved : Rows.WheelTurnsSaid := over
#print axioms proved
end Go.Proofs.Ytlkmdighjgpdlaa.wheelTurnsDone
