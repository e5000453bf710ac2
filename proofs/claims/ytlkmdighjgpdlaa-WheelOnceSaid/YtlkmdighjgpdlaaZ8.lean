/- The laws of package wheel: WheelFar. -/
import Derived.Test.YtlkmdighjgpdlaaZ2
import Derived.Test.YtlkmdighjgpdlaaRows
import Derived.Test.YtlkmdighjgpdlaaFt
set_option linter.all false
namespace Go.Proofs.Ytlkmdighjgpdlaa
open Go Go.Fx
theorem u64_wf {n : Int} (h : wfK .u64 n) : u64ok n := by
  unfold wfK at h
  simp [Lit.wf, IntKind.min, IntKind.max, IntKind.signed, IntKind.bits] at h
  unfold u64ok
  omega
theorem u64_of {n : Int} (h : Fits (.i .u64) n) : u64ok n := u64_wf h.out
theorem ix_mem {α : Type} [Inhabited α] {l : List α} {k : Int} (h0 : 0 ≤ k) (h1 : k < l.length) : ix l k ∈ l := by
  unfold ix
  rw [List.getD_eq_getElem?_getD, List.getElem?_eq_getElem (by omega)]
  exact List.getElem_mem _
theorem u64_ix {l : List Int} (h : Fits (.sl (.i .u64)) l) {k : Int} (h0 : 0 ≤ k) (h1 : k < l.length) : u64ok (ix l k) := u64_wf (h.out.2 _ (ix_mem h0 h1))
/-- One alarm alone. -/
def W1 (told : Bool) (at_ time : Int) : Wh := ([if told then (false, 0, 0) else (true, at_, 0)], time)
theorem W1_to (told : Bool) (at_ time s : Int) : toR (W1 told at_ time) s = W1 (told || decide (at_ ≤ if time < s then s else time)) at_ (if time < s then s else time) ∧ outR (W1 told at_ time) s = if !told && decide (at_ ≤ if time < s then s else time) then [0] else [] := by
  unfold toR outR W1 nowR clr clrOne dueN dueB ix
  generalize (if time < s then s else time) = t
  cases told <;> by_cases h : at_ ≤ t <;> simp [h, srt, List.range_succ, List.filter]
set_option maxRecDepth 10000 in
theorem far_vc :
  ∀ x0 : Int,
  ∀ x1 : Int,
  ∀ x2 : List Int,
  ((((True) ∧
      (Fits (Tp.i IntKind.u64) x0)) ∧
     (Fits (Tp.i IntKind.u64) x1)) ∧
    (Fits (Tp.sl (Tp.i IntKind.u64)) x2)) →
  (True) ∧
  (True →
   ((litCmp BinOp.gtr (↑(List.length x2) : Int) (40 : Int) = true) →
    (True) ∧
    (True)) ∧
   ((litCmp BinOp.gtr (↑(List.length x2) : Int) (40 : Int) = false) →
    (u64ok x0) ∧
    (True →
     ((IsW x0 (0 : Int) (0 : Int) (0 : Int) (0 : Int) [((-1 : Int), (-1 : Int), (-1 : Int))] (List.replicate (258 : Nat) ((-1 : Int), (-1 : Int), (0 : Int))) [((0 : Int), (0 : Int))]) ∧
      ((u64ok x1) ∧
       (u64ok (0 : Int)))) ∧
     (∀ x3 : Int,
      ∀ x4 : Int,
      ∀ x5 : Int,
      ∀ x6 : Int,
      ∀ x7 : List (Int × (Int × Int)),
      ∀ x8 : List (Int × (Int × Int)),
      ∀ x9 : List (Int × Int),
      ∀ x10 : Bool,
      (SetPost (0 : Int) x1 (0 : Int) x0 (0 : Int) (0 : Int) (0 : Int) (0 : Int) [((-1 : Int), (-1 : Int), (-1 : Int))] (List.replicate (258 : Nat) ((-1 : Int), (-1 : Int), (0 : Int))) [((0 : Int), (0 : Int))] x3 x4 x5 x6 x7 x8 x9 x10) →
      (((!x10) = true) →
       (True) ∧
       (False)) ∧
      (((!x10) = false) →
       ∃ x11 : Int → Bool → Int → Int → Int → Int → Int → Int → List (Int × (Int × Int)) → List (Int × (Int × Int)) → Prop,
       ∃ x12 : Int → Bool → Int → Int → Int → Int → Int → Int → List (Int × (Int × Int)) → List (Int × (Int × Int)) → Nat,
       (x11 (0 : Int) false x0 x0 x3 x4 x5 x6 x7 x8) ∧
       (∀ x13 : Int,
        ∀ x14 : Bool,
        ∀ x15 : Int,
        ∀ x16 : Int,
        ∀ x17 : Int,
        ∀ x18 : Int,
        ∀ x19 : Int,
        ∀ x20 : Int,
        ∀ x21 : List (Int × (Int × Int)),
        ∀ x22 : List (Int × (Int × Int)),
        (x11 x13 x14 x15 x16 x17 x18 x19 x20 x21 x22) →
        ((litCmp BinOp.lss x13 (↑(List.length x2) : Int) = true) →
         (((0 : Int) ≤ x13) ∧
          (x13 < (↑(List.length x2) : Int))) ∧
         (∀ x23 : Int,
          (x23 = ix x2 x13) →
          ∀ x24 : Int,
          (x24 = if x15 < x23 then x23 else x15) →
          ((u64ok x23) ∧
           (∃ x25 : Wh,
            RepW x25 x16 x17 x18 x19 x20 x21 x22 x9)) ∧
          (∀ x26 : Int,
           ∀ x27 : Int,
           ∀ x28 : Int,
           ∀ x29 : Int,
           ∀ x30 : Int,
           ∀ x31 : List (Int × (Int × Int)),
           ∀ x32 : List (Int × (Int × Int)),
           ∀ x33 : List Int,
           (ToPost x23 x16 x17 x18 x19 x20 x21 x22 x9 x26 x27 x28 x29 x30 x31 x32 x33) →
           ((litCmp BinOp.leq x1 x24 = true) →
            (((!litCmp BinOp.eql (↑(List.length x33) : Int) (1 : Int) == !x14) = true) →
             (True) ∧
             (False)) ∧
            (((!litCmp BinOp.eql (↑(List.length x33) : Int) (1 : Int) == !x14) = false) →
             (True) ∧
             (True →
              ((litCmp BinOp.neq x26 x24 = true) →
               (True) ∧
               (False)) ∧
              ((litCmp BinOp.neq x26 x24 = false) →
               ((x14 = true) →
                (IsW x26 x27 x28 x29 x30 x31 x32 x9) ∧
                (True →
                 (((Prod.snd (Prod.snd (atC x31 x9 (0 : Int))) == true) = true) →
                  (True) ∧
                  (False)) ∧
                 (((Prod.snd (Prod.snd (atC x31 x9 (0 : Int))) == true) = false) →
                  ∀ x34 : Int,
                  (x34 = litArith BinOp.add IntKind.i64 x13 (1 : Int)) →
                  (x1 = x1) ∧
                  ((x2 = x2) ∧
                   (((↑(List.length x2) : Int) = (↑(List.length x2) : Int)) ∧
                    (((↑(List.length x2) : Int) = (↑(List.length x2) : Int)) ∧
                     ((x9 = x9) ∧
                      (((↑(List.length x9) : Int) = (↑(List.length x9) : Int)) ∧
                       ((x11 x34 true x24 x26 x27 x28 x29 x30 x31 x32) ∧
                        (x12 x34 true x24 x26 x27 x28 x29 x30 x31 x32 < x12 x13 x14 x15 x16 x17 x18 x19 x20 x21 x22)))))))))) ∧
               ((x14 = false) →
                (IsW x26 x27 x28 x29 x30 x31 x32 x9) ∧
                (True →
                 (((Prod.snd (Prod.snd (atC x31 x9 (0 : Int))) == litCmp BinOp.leq x1 x24) = true) →
                  (True) ∧
                  (False)) ∧
                 (((Prod.snd (Prod.snd (atC x31 x9 (0 : Int))) == litCmp BinOp.leq x1 x24) = false) →
                  ∀ x35 : Int,
                  (x35 = litArith BinOp.add IntKind.i64 x13 (1 : Int)) →
                  (x1 = x1) ∧
                  ((x2 = x2) ∧
                   (((↑(List.length x2) : Int) = (↑(List.length x2) : Int)) ∧
                    (((↑(List.length x2) : Int) = (↑(List.length x2) : Int)) ∧
                     ((x9 = x9) ∧
                      (((↑(List.length x9) : Int) = (↑(List.length x9) : Int)) ∧
                       ((x11 x35 (litCmp BinOp.leq x1 x24) x24 x26 x27 x28 x29 x30 x31 x32) ∧
                        (x12 x35 (litCmp BinOp.leq x1 x24) x24 x26 x27 x28 x29 x30 x31 x32 < x12 x13 x14 x15 x16 x17 x18 x19 x20 x21 x22)))))))))))))) ∧
           ((litCmp BinOp.leq x1 x24 = false) →
            (((!litCmp BinOp.eql (↑(List.length x33) : Int) (1 : Int) == false) = true) →
             (True) ∧
             (False)) ∧
            (((!litCmp BinOp.eql (↑(List.length x33) : Int) (1 : Int) == false) = false) →
             (True) ∧
             (True →
              ((litCmp BinOp.neq x26 x24 = true) →
               (True) ∧
               (False)) ∧
              ((litCmp BinOp.neq x26 x24 = false) →
               ((x14 = true) →
                (IsW x26 x27 x28 x29 x30 x31 x32 x9) ∧
                (True →
                 (((Prod.snd (Prod.snd (atC x31 x9 (0 : Int))) == true) = true) →
                  (True) ∧
                  (False)) ∧
                 (((Prod.snd (Prod.snd (atC x31 x9 (0 : Int))) == true) = false) →
                  ∀ x36 : Int,
                  (x36 = litArith BinOp.add IntKind.i64 x13 (1 : Int)) →
                  (x1 = x1) ∧
                  ((x2 = x2) ∧
                   (((↑(List.length x2) : Int) = (↑(List.length x2) : Int)) ∧
                    (((↑(List.length x2) : Int) = (↑(List.length x2) : Int)) ∧
                     ((x9 = x9) ∧
                      (((↑(List.length x9) : Int) = (↑(List.length x9) : Int)) ∧
                       ((x11 x36 true x24 x26 x27 x28 x29 x30 x31 x32) ∧
                        (x12 x36 true x24 x26 x27 x28 x29 x30 x31 x32 < x12 x13 x14 x15 x16 x17 x18 x19 x20 x21 x22)))))))))) ∧
               ((x14 = false) →
                (IsW x26 x27 x28 x29 x30 x31 x32 x9) ∧
                (True →
                 (((Prod.snd (Prod.snd (atC x31 x9 (0 : Int))) == litCmp BinOp.leq x1 x24) = true) →
                  (True) ∧
                  (False)) ∧
                 (((Prod.snd (Prod.snd (atC x31 x9 (0 : Int))) == litCmp BinOp.leq x1 x24) = false) →
                  ∀ x37 : Int,
                  (x37 = litArith BinOp.add IntKind.i64 x13 (1 : Int)) →
                  (x1 = x1) ∧
                  ((x2 = x2) ∧
                   (((↑(List.length x2) : Int) = (↑(List.length x2) : Int)) ∧
                    (((↑(List.length x2) : Int) = (↑(List.length x2) : Int)) ∧
                     ((x9 = x9) ∧
                      (((↑(List.length x9) : Int) = (↑(List.length x9) : Int)) ∧
                       ((x11 x37 (litCmp BinOp.leq x1 x24) x24 x26 x27 x28 x29 x30 x31 x32) ∧
                        (x12 x37 (litCmp BinOp.leq x1 x24) x24 x26 x27 x28 x29 x30 x31 x32 < x12 x13 x14 x15 x16 x17 x18 x19 x20 x21 x22))))))))))))))))) ∧
        ((litCmp BinOp.lss x13 (↑(List.length x2) : Int) = false) →
         ((u64ok (18446744073709551615 : Int)) ∧
          (∃ x38 : Wh,
           RepW x38 x16 x17 x18 x19 x20 x21 x22 x9)) ∧
         (∀ x39 : Int,
          ∀ x40 : Int,
          ∀ x41 : Int,
          ∀ x42 : Int,
          ∀ x43 : Int,
          ∀ x44 : List (Int × (Int × Int)),
          ∀ x45 : List (Int × (Int × Int)),
          ∀ x46 : List Int,
          (ToPost (18446744073709551615 : Int) x16 x17 x18 x19 x20 x21 x22 x9 x39 x40 x41 x42 x43 x44 x45 x46) →
          (((litCmp BinOp.eql (↑(List.length x46) : Int) (1 : Int) == !x14) = true) →
           (IsW x39 x40 x41 x42 x43 x44 x45 x9) ∧
           (True →
            (True) ∧
            ((litCmp BinOp.eql (lenW x40 x41 x42 x43 x45) (0 : Int) = true) ∧
             (True)))) ∧
          (((litCmp BinOp.eql (↑(List.length x46) : Int) (1 : Int) == !x14) = false) →
           (True) ∧
           (False)))))))))) := by
  rintro now at_ steps ⟨⟨⟨_, hn⟩, ha⟩, hs⟩
  have hn := u64_of hn
  have ha := u64_of ha
  simp only [gtrT, gtrF, lssT, lssF, leqT, leqF, geqT, geqF, eqlT, eqlF, neqT, neqF, true_and, and_true, true_implies, implies_true, Bool.not_eq_true', Bool.not_eq_false', bne_iff_ne, ne_eq, not_true_eq_false, not_false_eq_true, Int.toNat_natCast, same_self, reduceCtorEq, false_implies, List.nil_append]
  intro hlen
  have hu : ∀ n : Int, 0 ≤ n ∧ n < 18446744073709551616 → u64ok n := fun n h => h
  have h0 : RepW ([(false, 0, 0)], now) now 0 0 0 0 [((-1 : Int), (-1 : Int), (-1 : Int))] (List.replicate (258 : Nat) ((-1 : Int), (-1 : Int), (0 : Int))) [((0 : Int), (0 : Int))] := RepW.new (k := 1) hn
  refine ⟨hn, ⟨h0.is, ha, hu _ (by omega)⟩, ?_⟩
  intro a0 a1 a2 a3 L0 E0 M b hp
  obtain ⟨h1, e⟩ := h0.set ha (hu _ (by omega)) hp
  clear h0 hp
  rw [show setR ([(false, 0, 0)], now) 0 at_ 0 = (W1 false at_ now, true) from rfl] at h1 e
  subst e
  refine ⟨fun q => by simp at q, fun _ => ?_⟩
  refine ⟨fun k told time e d0 d1 d2 d3 L E => 0 ≤ k ∧ k ≤ steps.length ∧ e = time ∧ RepW (W1 told at_ time) time d0 d1 d2 d3 L E M ∧ (told = true → at_ ≤ time), fun k _ _ _ _ _ _ _ _ _ => ((steps.length : Int) - k).toNat, ⟨Int.le_refl _, Int.natCast_nonneg _, rfl, h1, fun q => by cases q⟩, ?_⟩
  rintro k told tm0 time d0 d1 d2 d3 L E ⟨k0, k1, he0, h, ht⟩
  subst he0
  refine ⟨fun hk => ⟨⟨k0, hk⟩, ?_⟩, fun hk => ⟨⟨hu _ (by omega), _, h⟩, ?_⟩⟩
  · rintro s hs' t rfl
    have hsu : u64ok s := by
      rw [hs']
      exact u64_ix hs k0 hk
    refine ⟨⟨hsu, _, h⟩, ?_⟩
    intro e f0 f1 f2 f3 L2 E2 o hp
    obtain ⟨h2, ho⟩ := hp _ h
    rw [(W1_to told at_ time s).1] at h2
    rw [(W1_to told at_ time s).2] at ho
    have he := h2.nw
    have hat := h2.at_ 0
    generalize hT : (if time < s then s else time) = t at *
    have htt : time ≤ t := by rw [← hT]; split <;> omega
    have he : t = e := he
    subst he
    have hadd : litArith .add .i64 k 1 = k + 1 := addI_ (by omega) (by omega)
    have hon : (atC L2 M 0).2.2 = !(told || decide (at_ ≤ t)) := by
      rw [hat]
      unfold wantR isR W1 ix
      cases (told || decide (at_ ≤ t)) <;> rfl
    have hol : (o.length : Int) = if !told && decide (at_ ≤ t) then 1 else 0 := by rw [ho]; split <;> rfl
    rw [hon, hol]
    cases told with
    | true =>
      have hd := ht rfl
      have hd : at_ ≤ t := by omega
      simp only [hd, decide_true, Bool.or_true, litCmp] at h2 ⊢
      simp [litCmp, hadd, h2.is, hd]
      have hg : (0 ≤ k + 1 ∧ k + 1 ≤ (steps.length : Int) ∧ RepW (W1 true at_ t) t f0 f1 f2 f3 L2 E2 M) ∧ max ((steps.length : Int) - (k + 1)) 0 < (steps.length : Int) - k := ⟨⟨by omega, by omega, h2⟩, by omega⟩
      exact ⟨hg, fun _ => hg⟩
    | false =>
      by_cases hd : at_ ≤ t
      · simp only [hd, decide_true, Bool.or_true] at h2 ⊢
        simp [litCmp, hadd, h2.is, hd]
        have hg : (0 ≤ k + 1 ∧ k + 1 ≤ (steps.length : Int) ∧ RepW (W1 true at_ t) t f0 f1 f2 f3 L2 E2 M) ∧ max ((steps.length : Int) - (k + 1)) 0 < (steps.length : Int) - k := ⟨⟨by omega, by omega, h2⟩, by omega⟩
        exact hg
      · simp only [hd, decide_false, Bool.or_false] at h2 ⊢
        simp [litCmp, hadd, h2.is, hd]
        have hg : (0 ≤ k + 1 ∧ k + 1 ≤ (steps.length : Int) ∧ RepW (W1 false at_ t) t f0 f1 f2 f3 L2 E2 M) ∧ max ((steps.length : Int) - (k + 1)) 0 < (steps.length : Int) - k := ⟨⟨by omega, by omega, h2⟩, by omega⟩
        exact fun _ => hg
  · intro e f0 f1 f2 f3 L2 E2 o hp
    obtain ⟨h2, ho⟩ := hp _ h
    rw [(W1_to told at_ time _).1] at h2
    rw [(W1_to told at_ time _).2] at ho
    have hle := h2.len_eq
    have htm := h.is.now
    have hT : at_ ≤ (if time < 18446744073709551615 then 18446744073709551615 else time) := by
      have := ha.2
      split <;> omega
    rw [hle]
    have hol : (o.length : Int) = if !told then 1 else 0 := by rw [ho]; simp only [hT, decide_true, Bool.and_true]; split <;> rfl
    rw [hol]
    simp only [hT, decide_true, Bool.or_true]
    refine ⟨fun _ => ⟨h2.is, by simp [W1, lenR, litCmp]⟩, ?_⟩
    cases told <;> simp [litCmp]
set_option maxRecDepth 10000 in
theorem far_ok : conFar.ok KK Try.prog 9 := by
  refine Con.of_vc ([(0, ⟨[], [(32, .d (.i .i64)), (8, .d .bo), (9, .d (.i .u64))], [(0, vW)], [0, 1], []⟩)]) ([]) TT_ok follows Try.func9 ?_ G39_ok (@toVC _ _ far_vc ?_)
  · kernel_rfl
  · kernel_rfl
noncomputable def G40 : List (FuncId × Con) := (9, conFar) :: G39
theorem G40_ok : GOK KK Try.prog G40 := GOK.cons (Callable.of Try.func9 (by kernel_rfl) (by kernel_rfl)) far_ok G39_ok
end Go.Proofs.Ytlkmdighjgpdlaa
/- Wheels whose alarms are known: the plain law. -/
namespace Go.Proofs.Ytlkmdighjgpdlaa
open Go Go.Fx
/-- Alarms of which some are set. -/
def setP (f : Nat → Int × Int) (n : Nat) (p : Nat → Bool) : List Mk := (List.range n).map fun i => if p i then (true, f i) else (false, 0, 0)
theorem setP_len {f : Nat → Int × Int} {n : Nat} {p : Nat → Bool} : (setP f n p).length = n := by simp [setP]
theorem setP_get {f : Nat → Int × Int} {n : Nat} {p : Nat → Bool} {i : Nat} (h : i < n) : (setP f n p)[i]? = some (if p i then (true, f i) else (false, 0, 0)) := by simp [setP, h]
theorem setP_ix {f : Nat → Int × Int} {n : Nat} {p : Nat → Bool} {i : Nat} (h : i < n) : ix (setP f n p) (i : Int) = if p i then (true, f i) else (false, 0, 0) := by
  unfold ix
  rw [List.getD_eq_getElem?_getD, Int.toNat_natCast, setP_get h]
  rfl
theorem setP_congr {f : Nat → Int × Int} {n : Nat} {p q : Nat → Bool} (h : ∀ i, i < n → p i = q i) : setP f n p = setP f n q := by
  apply List.ext_getElem?
  intro i
  by_cases hi : i < n
  · rw [setP_get hi, setP_get hi, h i hi]
  · rw [List.getElem?_eq_none (by rw [setP_len]; omega), List.getElem?_eq_none (by rw [setP_len]; omega)]
theorem setP_none {f : Nat → Int × Int} {n : Nat} : setP f n (fun _ => false) = List.replicate n (false, 0, 0) := by
  apply List.ext_getElem?
  intro i
  by_cases hi : i < n
  · rw [setP_get hi, List.getElem?_replicate, if_pos hi]; rfl
  · rw [List.getElem?_eq_none (by rw [setP_len]; omega), List.getElem?_replicate, if_neg hi]
theorem setP_set {f : Nat → Int × Int} {n : Nat} {p : Nat → Bool} {now : Int} {k : Nat} (hk : k < n) (hp : p k = false) : setR (setP f n p, now) k (f k).1 (f k).2 = ((setP f n (fun i => p i || i == k), now), true) := by
  unfold setR
  rw [if_neg (by
    simp only [setP_len, setP_ix hk, hp]
    simp
    omega)]
  unfold withR
  simp only [Int.toNat_natCast, Prod.mk.injEq, and_true]
  apply List.ext_getElem?
  intro i
  by_cases hi : i < n
  · rw [List.getElem?_set, setP_len, setP_get hi]
    by_cases e : k = i
    · subst e
      rw [setP_get hk]
      simp [hk]
    · rw [if_neg e, setP_get hi]
      have : (i == k) = false := by simpa using fun q => e q.symm
      simp [this]
  · rw [List.getElem?_eq_none (by rw [List.length_set, setP_len]; omega), List.getElem?_eq_none (by rw [setP_len]; omega)]
theorem setP_clr {f : Nat → Int × Int} {n : Nat} {p : Nat → Bool} {T : Int} : clr (setP f n p) T = setP f n (fun i => p i && !decide ((f i).1 ≤ T)) := by
  apply List.ext_getElem?
  intro i
  unfold clr
  rw [List.getElem?_map]
  by_cases hi : i < n
  · rw [setP_get hi, setP_get hi]
    unfold clrOne
    by_cases h1 : p i <;> by_cases h2 : (f i).1 ≤ T <;> simp [h1, h2]
  · rw [List.getElem?_eq_none (by rw [setP_len]; omega), List.getElem?_eq_none (by rw [setP_len]; omega)]; rfl
/-- Some of the alarms, by their numbers. -/
def numP (n : Nat) (q : Nat → Bool) : List Int := ((List.range n).filter q).map fun i : Nat => (i : Int)
def fI (f : Nat → Int × Int) (k : Int) : Int × Int := f k.toNat
def outP (f : Nat → Int × Int) (n : Nat) (q : Nat → Bool) : List Int := srt (cfM (fI f)) (numP n q)
theorem numP_mem {n : Nat} {q : Nat → Bool} {k : Int} : k ∈ numP n q ↔ ∃ i : Nat, k = i ∧ i < n ∧ q i = true := by
  unfold numP
  rw [List.mem_map]
  constructor
  · rintro ⟨i, hi, rfl⟩
    rw [List.mem_filter, List.mem_range] at hi
    exact ⟨i, rfl, hi.1, hi.2⟩
  · rintro ⟨i, rfl, h1, h2⟩
    exact ⟨i, by rw [List.mem_filter, List.mem_range]; exact ⟨h1, h2⟩, rfl⟩
theorem numP_nodup (n : Nat) (q : Nat → Bool) : (numP n q).Nodup := by
  unfold numP
  refine List.Pairwise.map _ (fun a b h => ?_) (List.Pairwise.filter _ (List.nodup_range (n := n)))
  intro e
  exact h (by omega)
theorem outP_mem {f : Nat → Int × Int} {n : Nat} {q : Nat → Bool} {k : Int} : k ∈ outP f n q ↔ ∃ i : Nat, k = i ∧ i < n ∧ q i = true := by unfold outP; rw [srt_mem, numP_mem]
theorem outP_nodup (f : Nat → Int × Int) (n : Nat) (q : Nat → Bool) : (outP f n q).Nodup := (srt_perm _ _).nodup_iff.2 (numP_nodup n q)
theorem outP_pair (f : Nat → Int × Int) (n : Nat) (q : Nat → Bool) : (outP f n q).Pairwise (ltM (fI f)) := srt_pair _ (numP_nodup n q)
theorem outP_congr {f : Nat → Int × Int} {n : Nat} {p q : Nat → Bool} (h : ∀ i, i < n → p i = q i) : outP f n p = outP f n q := by
  unfold outP numP
  rw [List.filter_congr fun i hi => h i (List.mem_range.1 hi)]
theorem outP_len (f : Nat → Int × Int) (n : Nat) (q : Nat → Bool) : (outP f n q).length ≤ n := by
  unfold outP numP
  rw [srt_length, List.length_map]
  exact Nat.le_trans (List.length_filter_le _ _) (by simp)
theorem outP_of {f : Nat → Int × Int} {n : Nat} {q : Nat → Bool} {l : List Int} (hm : ∀ k, k ∈ l ↔ ∃ i : Nat, k = i ∧ i < n ∧ q i = true) (hp : l.Pairwise (ltM (fI f))) : l = outP f n q := by
  have hn : l.Nodup := hp.imp fun h e => by subst e; exact ltM.irr h
  exact srt_eq (numP_nodup n q) ((List.perm_ext_iff_of_nodup hn (numP_nodup n q)).2 fun k => by rw [hm, numP_mem]) hp
theorem setP_to {f : Nat → Int × Int} {n : Nat} {p : Nat → Bool} {t0 to : Int} : toR (setP f n p, t0) to = (setP f n (fun i => p i && !decide ((f i).1 ≤ if t0 < to then to else t0)), if t0 < to then to else t0) ∧
    outR (setP f n p, t0) to = outP f n (fun i => p i && decide ((f i).1 ≤ if t0 < to then to else t0)) := by
  unfold toR outR nowR
  simp only
  generalize (if t0 < to then to else t0) = T
  refine ⟨by rw [setP_clr], ?_⟩
  have hm : ∀ k, k ∈ srt (cfM (mkAt (setP f n p))) (dueN (setP f n p) T (setP f n p).length) ↔ ∃ i : Nat, k = i ∧ i < n ∧ (p i && decide ((f i).1 ≤ T)) = true := fun k => by
    rw [srt_mem, dueN_mem, setP_len]
    constructor
    · rintro ⟨h0, h1, h2⟩
      obtain ⟨i, rfl⟩ := Int.eq_ofNat_of_zero_le h0
      have hi : i < n := by omega
      refine ⟨i, rfl, hi, ?_⟩
      unfold dueB at h2
      rw [setP_ix hi] at h2
      cases hp : p i with
      | false => rw [hp] at h2; simp at h2
      | true => rw [hp] at h2; simpa using h2
    · rintro ⟨i, rfl, hi, h⟩
      refine ⟨by omega, by omega, ?_⟩
      unfold dueB
      rw [setP_ix hi]
      simp only [Bool.and_eq_true] at h
      rw [h.1]
      simpa using h.2
  refine outP_of hm ?_
  refine (srt_pair (mkAt (setP f n p)) (dueN_nodup _ _ _)).imp_of_mem ?_
  intro a b ha hb hab
  obtain ⟨i, rfl, hi, h1⟩ := (hm a).1 ha
  obtain ⟨j, rfl, hj, h2⟩ := (hm b).1 hb
  simp only [Bool.and_eq_true] at h1 h2
  have ea : mkAt (setP f n p) (i : Int) = fI f i := by unfold mkAt fI; rw [setP_ix hi, h1.1, Int.toNat_natCast]; rfl
  have eb : mkAt (setP f n p) (j : Int) = fI f j := by unfold mkAt fI; rw [setP_ix hj, h2.1, Int.toNat_natCast]; rfl
  unfold ltM at hab ⊢
  rw [ea, eb] at hab
  exact hab
/-- Those of one step stand ahead of those of the next one. -/
theorem outP_app {f : Nat → Int × Int} {n : Nat} {q : Nat → Bool} {T T' : Int} (h : T ≤ T') : outP f n (fun i => q i && decide ((f i).1 ≤ T)) ++ outP f n (fun i => (q i && !decide ((f i).1 ≤ T)) && decide ((f i).1 ≤ T')) = outP f n (fun i => q i && decide ((f i).1 ≤ T')) := by
  refine outP_of (fun k => ?_) (List.pairwise_append.2 ⟨outP_pair _ _ _, outP_pair _ _ _, fun a ha b hb => ?_⟩)
  · rw [List.mem_append, outP_mem, outP_mem]
    constructor
    · rintro (⟨i, rfl, hi, h1⟩ | ⟨i, rfl, hi, h1⟩)
      · refine ⟨i, rfl, hi, ?_⟩
        simp only [Bool.and_eq_true, decide_eq_true_eq] at h1 ⊢
        exact ⟨h1.1, by omega⟩
      · refine ⟨i, rfl, hi, ?_⟩
        simp only [Bool.and_eq_true, decide_eq_true_eq] at h1 ⊢
        exact ⟨h1.1.1, h1.2⟩
    · rintro ⟨i, rfl, hi, h1⟩
      simp only [Bool.and_eq_true, decide_eq_true_eq] at h1
      by_cases c : (f i).1 ≤ T
      · exact .inl ⟨i, rfl, hi, by simp [h1.1, c]⟩
      · exact .inr ⟨i, rfl, hi, by simp [h1.1, h1.2, c]⟩
  · obtain ⟨i, rfl, hi, h1⟩ := outP_mem.1 ha
    obtain ⟨j, rfl, hj, h2⟩ := outP_mem.1 hb
    simp only [Bool.and_eq_true, decide_eq_true_eq, Bool.not_eq_true', decide_eq_false_iff_not] at h1 h2
    unfold ltM fI
    simp only [Int.toNat_natCast]
    omega
end Go.Proofs.Ytlkmdighjgpdlaa
/- Two wheels side by side: patterns; numbers that are cut. -/
namespace Go.Proofs.Ytlkmdighjgpdlaa
open Go Go.Fx
def vWb : VP := .ls [.is (.lp 3 0), .is (.own 5), .d (.i .u64), .d (.i .i64), .d (.i .i64), .d (.i .i64), .d (.i .i64)]
theorem wrapU_ok (x : Int) : u64ok (IntKind.wrap .u64 x) := by
  show u64ok (if (false && decide (x % 18446744073709551616 ≥ (2 ^ 63 : Int))) = true then x % 18446744073709551616 - 18446744073709551616 else x % 18446744073709551616)
  rw [Bool.false_and, if_neg (by simp)]
  unfold u64ok
  omega
theorem addU_ok (x y : Int) : u64ok (litArith .add .u64 x y) := wrapU_ok _
theorem mask62 {x : Int} (h : u64ok x) : litArith .and .u64 x 4611686018427387903 = x % 4611686018427387904 := by
  have := andM_ (x := x) 62 (by omega) h.1 h.2
  have e1 : ((2 ^ 62 - 1 : Nat) : Int) = 4611686018427387903 := by decide
  have e2 : ((2 ^ 62 : Nat) : Int) = 4611686018427387904 := by decide
  rw [e1, e2] at this
  exact this
theorem cutN {n : Nat} (h : n ≤ 4096) : cut4096 (n : Int) = n := by
  unfold cut4096
  rw [if_neg (by omega), if_neg (by omega)]
  simp
theorem new_P (f : Nat → Int × Int) {n : Nat} (h : n ≤ 4096) : List.replicate (cut4096 (n : Int)) (false, 0, 0) = setP f n (fun i => decide (i < 0)) := by
  rw [cutN h, ← setP_none (f := f)]
  exact setP_congr fun i _ => by simp
theorem set_P {f : Nat → Int × Int} {n : Nat} {now : Int} {m : Nat} (h : m < n) : setR (setP f n (fun i => decide (i < m)), now) m (f m).1 (f m).2 = ((setP f n (fun i => decide (i < m + 1)), now), true) := by
  rw [setP_set h (by simp)]
  congr 2
  refine setP_congr fun i _ => ?_
  by_cases h1 : i < m
  · simp [h1]; omega
  · by_cases h2 : i = m
    · simp [h2]
    · have : ¬ i < m + 1 := by omega
      simp [h1, h2, this]
theorem all_P {f : Nat → Int × Int} {n : Nat} : setP f n (fun i => decide (i < n)) = setP f n (fun _ => true) := setP_congr fun i h => by simp [h]
/-- All alarms of a time that is gone are told. -/
def leftP (f : Nat → Int × Int) (n : Nat) (T : Int) : List Mk := setP f n (fun i => true && !decide ((f i).1 ≤ T))
def toldP (f : Nat → Int × Int) (n : Nat) (T : Int) : List Int := outP f n (fun i => true && decide ((f i).1 ≤ T))
theorem left_to {f : Nat → Int × Int} {n : Nat} {T to : Int} : toR (leftP f n T, T) to = (leftP f n (if T < to then to else T), if T < to then to else T) ∧ toldP f n T ++ outR (leftP f n T, T) to = toldP f n (if T < to then to else T) := by
  have hT : T ≤ if T < to then to else T := by split <;> omega
  unfold leftP toldP
  rw [setP_to.1, setP_to.2]
  generalize (if T < to then to else T) = T' at hT
  refine ⟨?_, outP_app hT⟩
  congr 1
  refine setP_congr fun i _ => ?_
  by_cases h : (f i).1 ≤ T
  · have : (f i).1 ≤ T' := by omega
    simp [h, this]
  · simp [h]
theorem all_to {f : Nat → Int × Int} {n : Nat} {t0 to : Int} : toR (setP f n (fun _ => true), t0) to = (leftP f n (if t0 < to then to else t0), if t0 < to then to else t0) ∧ outR (setP f n (fun _ => true), t0) to = toldP f n (if t0 < to then to else t0) := setP_to
theorem toldP_len (f : Nat → Int × Int) (n : Nat) (T : Int) : (toldP f n T).length ≤ n := outP_len _ _ _
end Go.Proofs.Ytlkmdighjgpdlaa
/- Wheels whose alarms are known: what is asked of them. -/
namespace Go.Proofs.Ytlkmdighjgpdlaa
open Go Go.Fx
theorem setP_want {f : Nat → Int × Int} {n : Nat} {p : Nat → Bool} {T : Int} {i : Nat} (h : i < n) : wantR (setP f n p, T) (i : Int) = if p i then (true, f i) else (false, 0, 0) := by
  unfold wantR isR
  simp only [setP_len, setP_ix h]
  cases hp : p i <;> simp [h]
theorem lenR_none {f : Nat → Int × Int} {n : Nat} {p : Nat → Bool} (h : ∀ i, i < n → p i = false) : lenR (setP f n p) = 0 := by
  rw [setP_congr (q := fun _ => false) h, setP_none]
  unfold lenR
  rw [List.filter_eq_nil_iff.2]
  · rfl
  · intro x hx
    rw [List.mem_replicate] at hx
    rw [hx.2]
    simp
theorem mask9 {x : Int} (h : u64ok x) : litArith .and .u64 x 511 = x % 512 := by
  have := andM_ (x := x) 9 (by omega) h.1 h.2
  have e1 : ((2 ^ 9 - 1 : Nat) : Int) = 511 := by decide
  have e2 : ((2 ^ 9 : Nat) : Int) = 512 := by decide
  rw [e1, e2] at this
  exact this
theorem mask57 {x : Int} (h : u64ok x) : litArith .and .u64 x 144115188075855871 = x % 144115188075855872 := by
  have := andM_ (x := x) 57 (by omega) h.1 h.2
  have e1 : ((2 ^ 57 - 1 : Nat) : Int) = 144115188075855871 := by decide
  have e2 : ((2 ^ 57 : Nat) : Int) = 144115188075855872 := by decide
  rw [e1, e2] at this
  exact this
end Go.Proofs.Ytlkmdighjgpdlaa
/- What was told how often: the plain law. -/
namespace Go.Proofs.Ytlkmdighjgpdlaa
open Go Go.Fx
/-- Told once, but for some. -/
def cntP (n : Nat) (p : Nat → Bool) : List Int := (List.range n).map fun i => if p i then 0 else 1
theorem cntP_len {n : Nat} {p : Nat → Bool} : (cntP n p).length = n := by simp [cntP]
theorem cntP_get {n : Nat} {p : Nat → Bool} {i : Nat} (h : i < n) : (cntP n p)[i]? = some (if p i then 0 else 1) := by simp [cntP, h]
theorem cntP_ix {n : Nat} {p : Nat → Bool} {i : Nat} (h : i < n) : ix (cntP n p) (i : Int) = if p i then 0 else 1 := by
  unfold ix
  rw [List.getD_eq_getElem?_getD, Int.toNat_natCast, cntP_get h]
  rfl
theorem cntP_congr {n : Nat} {p q : Nat → Bool} (h : ∀ i, i < n → p i = q i) : cntP n p = cntP n q := by
  apply List.ext_getElem?
  intro i
  by_cases hi : i < n
  · rw [cntP_get hi, cntP_get hi, h i hi]
  · rw [List.getElem?_eq_none (by rw [cntP_len]; omega), List.getElem?_eq_none (by rw [cntP_len]; omega)]
theorem cntP_none {n : Nat} : cntP n (fun _ => true) = List.replicate n 0 := by
  apply List.ext_getElem?
  intro i
  by_cases hi : i < n
  · rw [cntP_get hi, List.getElem?_replicate, if_pos hi]; rfl
  · rw [List.getElem?_eq_none (by rw [cntP_len]; omega), List.getElem?_replicate, if_neg hi]
/-- One more is told. -/
theorem cntP_tell {n : Nat} {p : Nat → Bool} {o : List Int} {j i : Nat} (hj : j < o.length) (hi : i < n) (hix : ix o (j : Int) = i) : (cntP n fun k => p k && !decide ((k : Int) ∈ o.take j)).set i 1 = cntP n fun k => p k && !decide ((k : Int) ∈ o.take (j + 1)) := by
  have ho : o[j] = (i : Int) := by
    rw [← hix]
    unfold ix
    rw [List.getD_eq_getElem?_getD, Int.toNat_natCast, List.getElem?_eq_getElem hj]
    rfl
  apply List.ext_getElem?
  intro k
  by_cases hk : k < n
  · rw [List.getElem?_set, cntP_len, cntP_get hk, cntP_get hk, List.take_add_one, List.getElem?_eq_getElem hj, Option.toList_some, ho]
    by_cases e : i = k
    · subst e
      rw [if_pos rfl, if_pos hi]
      simp
    · rw [if_neg e]
      have : ¬ (k : Int) = i := by omega
      simp [this]
  · rw [List.getElem?_eq_none (by rw [List.length_set, cntP_len]; omega), List.getElem?_eq_none (by rw [cntP_len]; omega)]
/-- What is told so far, of those that are to be told. -/
def TellI (n : Nat) (p : Nat → Bool) (o : List Int) (j : Int) (l : List Int) : Prop := 0 ≤ j ∧ j ≤ o.length ∧ l = cntP n fun k => p k && !decide ((k : Int) ∈ o.take j.toNat)
theorem TellI.start {n : Nat} {p : Nat → Bool} {o : List Int} : TellI n p o 0 (cntP n p) :=
  ⟨Int.le_refl _, Int.natCast_nonneg _, cntP_congr fun i _ => by simp⟩
theorem TellI.step {f : Nat → Int × Int} {n : Nat} {p : Nat → Bool} {T : Int} {o : List Int} {j : Int} {l : List Int} (ho : o = outP f n (fun i => p i && decide ((f i).1 ≤ T))) (h : TellI n p o j l) (hj : j < o.length) :
    ∃ i : Nat, ix o j = i ∧ i < n ∧ p i = true ∧ (f i).1 ≤ T ∧ ix l (i : Int) = 0 ∧ l.length = n ∧ TellI n p o (j + 1) (l.set i 1) := by
  obtain ⟨j0, j1, rfl⟩ := h
  obtain ⟨j, rfl⟩ := Int.eq_ofNat_of_zero_le j0
  have hjn : j < o.length := by omega
  have hix : ix o (j : Int) = o[j] := by
    unfold ix
    rw [List.getD_eq_getElem?_getD, Int.toNat_natCast, List.getElem?_eq_getElem hjn]
    rfl
  have hm : o[j] ∈ o := List.getElem_mem hjn
  have hsub : ∀ x, x ∈ o → x ∈ outP f n (fun i => p i && decide ((f i).1 ≤ T)) := fun x hx => by rw [← ho]; exact hx
  obtain ⟨i, hi, hin, hq⟩ := outP_mem.1 (hsub _ hm)
  simp only [Bool.and_eq_true, decide_eq_true_eq] at hq
  have hnot : ¬ (i : Int) ∈ o.take j := by
    rw [← hi]
    intro hmem
    obtain ⟨a, ha, he⟩ := List.mem_iff_getElem.1 hmem
    simp only [List.length_take] at ha
    rw [List.getElem_take] at he
    have hnd : o.Nodup := by rw [ho]; exact outP_nodup _ _ _
    have := (List.getElem_inj hnd).1 he
    omega
  refine ⟨i, by rw [hix, hi], hin, hq.1, hq.2, ?_, cntP_len, ?_⟩
  · rw [cntP_ix hin, Int.toNat_natCast]
    simp [hnot, hq.1]
  · refine ⟨by omega, by omega, ?_⟩
    rw [Int.toNat_natCast, show ((j : Int) + 1).toNat = j + 1 from by omega]
    exact cntP_tell hjn hin (by rw [hix, hi])
theorem TellI.done {f : Nat → Int × Int} {n : Nat} {p : Nat → Bool} {T : Int} {o : List Int} {j : Int} {l : List Int} (ho : o = outP f n (fun i => p i && decide ((f i).1 ≤ T))) (h : TellI n p o j l) (hj : ¬ j < o.length) : l = cntP n fun k => p k && !decide ((f k).1 ≤ T) := by
  obtain ⟨j0, j1, rfl⟩ := h
  refine cntP_congr fun i hi => ?_
  rw [List.take_of_length_le (by omega)]
  cases hp : p i with
  | false => rfl
  | true =>
    simp only [Bool.true_and]
    congr 1
    rw [decide_eq_decide, ho, outP_mem]
    constructor
    · rintro ⟨i', e, _, h'⟩
      obtain rfl : i = i' := by omega
      simpa [hp] using h'
    · intro h'
      exact ⟨i, rfl, hi, by simp [hp, h']⟩
end Go.Proofs.Ytlkmdighjgpdlaa
/- The laws of package wheel: WheelOnce. -/
namespace Go.Proofs.Ytlkmdighjgpdlaa
open Go Go.Fx

set_option maxRecDepth 10000 in
theorem once_vc :
  ∀ x0 : Int,
  ∀ x1 : List Int,
  ∀ x2 : List Int,
  ((((True) ∧
      (Fits (Tp.i IntKind.u64) x0)) ∧
     (Fits (Tp.sl (Tp.i IntKind.u64)) x1)) ∧
    (Fits (Tp.sl (Tp.i IntKind.u64)) x2)) →
  (True) ∧
  (True →
   ((litCmp BinOp.gtr (↑(List.length x1) : Int) (64 : Int) = true) →
    (True) ∧
    (True)) ∧
   ((litCmp BinOp.gtr (↑(List.length x1) : Int) (64 : Int) = false) →
    ((litCmp BinOp.gtr (↑(List.length x2) : Int) (60 : Int) = true) →
     (True) ∧
     (True)) ∧
    ((litCmp BinOp.gtr (↑(List.length x2) : Int) (60 : Int) = false) →
     ((litCmp BinOp.gtr x0 (4611686018427387904 : Int) = true) →
      (True) ∧
      (True)) ∧
     ((litCmp BinOp.gtr x0 (4611686018427387904 : Int) = false) →
      (u64ok x0) ∧
      (True →
       ∃ x3 : Int → Int → Int → Int → Int → Int → List (Int × (Int × Int)) → List (Int × (Int × Int)) → List (Int × Int) → Prop,
       ∃ x4 : Int → Int → Int → Int → Int → Int → List (Int × (Int × Int)) → List (Int × (Int × Int)) → List (Int × Int) → Nat,
       (x3 (0 : Int) x0 (0 : Int) (0 : Int) (0 : Int) (0 : Int) (List.replicate (cut4096 (↑(List.length x1) : Int)) ((-1 : Int), (-1 : Int), (-1 : Int))) (List.replicate (258 : Nat) ((-1 : Int), (-1 : Int), (0 : Int))) (List.replicate (cut4096 (↑(List.length x1) : Int)) ((0 : Int), (0 : Int)))) ∧
       (∀ x5 : Int,
        ∀ x6 : Int,
        ∀ x7 : Int,
        ∀ x8 : Int,
        ∀ x9 : Int,
        ∀ x10 : Int,
        ∀ x11 : List (Int × (Int × Int)),
        ∀ x12 : List (Int × (Int × Int)),
        ∀ x13 : List (Int × Int),
        (x3 x5 x6 x7 x8 x9 x10 x11 x12 x13) →
        ((litCmp BinOp.lss x5 (↑(List.length x1) : Int) = true) →
         (((0 : Int) ≤ x5) ∧
          (x5 < (↑(List.length x1) : Int))) ∧
         (∀ x14 : Int,
          (x14 = ix x1 x5) →
          ∀ x15 : Int,
          (x15 = litArith BinOp.and IntKind.u64 x14 (4611686018427387903 : Int)) →
          ∀ x16 : Int,
          (x16 = litArith BinOp.add IntKind.u64 x0 x15) →
          ∀ x17 : Int,
          (x17 = IntKind.wrap IntKind.u64 x5) →
          ((IsW x6 x7 x8 x9 x10 x11 x12 x13) ∧
           ((u64ok x16) ∧
            (u64ok x17))) ∧
          (∀ x18 : Int,
           ∀ x19 : Int,
           ∀ x20 : Int,
           ∀ x21 : Int,
           ∀ x22 : List (Int × (Int × Int)),
           ∀ x23 : List (Int × (Int × Int)),
           ∀ x24 : List (Int × Int),
           ∀ x25 : Bool,
           (SetPost x5 x16 x17 x6 x7 x8 x9 x10 x11 x12 x13 x18 x19 x20 x21 x22 x23 x24 x25) →
           (((!x25) = true) →
            (True) ∧
            (False)) ∧
           (((!x25) = false) →
            ∀ x26 : Int,
            (x26 = litArith BinOp.add IntKind.i64 x5 (1 : Int)) →
            (x0 = x0) ∧
            ((x1 = x1) ∧
             (((↑(List.length x1) : Int) = (↑(List.length x1) : Int)) ∧
              ((x2 = x2) ∧
               (((↑(List.length x2) : Int) = (↑(List.length x2) : Int)) ∧
                ((x1 = x1) ∧
                 (((↑(List.length x1) : Int) = (↑(List.length x1) : Int)) ∧
                  (((↑(List.length x1) : Int) = (↑(List.length x1) : Int)) ∧
                   ((x3 x26 x6 x18 x19 x20 x21 x22 x23 x24) ∧
                    (x4 x26 x6 x18 x19 x20 x21 x22 x23 x24 < x4 x5 x6 x7 x8 x9 x10 x11 x12 x13))))))))))))) ∧
        ((litCmp BinOp.lss x5 (↑(List.length x1) : Int) = false) →
         (((0 : Int) ≤ (1 : Int) + (↑(List.length x2) : Int)) ∧
          (((1 : Int) + (↑(List.length x2) : Int)) * (8 : Int) ≤ (140737488355328 : Int))) ∧
         ((((0 : Int) ≤ (↑(List.length x1) : Int)) ∧
           ((↑(List.length x1) : Int) * (8 : Int) ≤ (140737488355328 : Int))) ∧
          (∀ x27 : List Int,
           (x27 = [(0 : Int)] ++ x2) →
           (((0 : Int) ≤ (1 : Int) + (↑(List.length x2) : Int) + (1 : Int)) ∧
            (((1 : Int) + (↑(List.length x2) : Int) + (1 : Int)) * (8 : Int) ≤ (140737488355328 : Int))) ∧
           (∀ x28 : List Int,
            (x28 = x27 ++ [(9223372036854775807 : Int)]) →
            ∃ x29 : Int → Int → Int → Int → Int → Int → Int → List (Int × (Int × Int)) → List (Int × (Int × Int)) → List Int → Prop,
            ∃ x30 : Int → Int → Int → Int → Int → Int → Int → List (Int × (Int × Int)) → List (Int × (Int × Int)) → List Int → Nat,
            (x29 (0 : Int) x0 x6 x7 x8 x9 x10 x11 x12 (List.replicate (Int.toNat (↑(List.length x1) : Int)) (0 : Int))) ∧
            (∀ x31 : Int,
             ∀ x32 : Int,
             ∀ x33 : Int,
             ∀ x34 : Int,
             ∀ x35 : Int,
             ∀ x36 : Int,
             ∀ x37 : Int,
             ∀ x38 : List (Int × (Int × Int)),
             ∀ x39 : List (Int × (Int × Int)),
             ∀ x40 : List Int,
             (x29 x31 x32 x33 x34 x35 x36 x37 x38 x39 x40) →
             ((litCmp BinOp.lss x31 ((1 : Int) + (↑(List.length x2) : Int) + (1 : Int)) = true) →
              (((0 : Int) ≤ x31) ∧
               (x31 < (1 : Int) + (↑(List.length x2) : Int) + (1 : Int))) ∧
              (∀ x41 : Int,
               (x41 = ix x28 x31) →
               ∀ x42 : Int,
               (x42 = litArith BinOp.and IntKind.u64 x41 (144115188075855871 : Int)) →
               ∀ x43 : Int,
               (x43 = litArith BinOp.add IntKind.u64 x32 x42) →
               ((litCmp BinOp.eql x41 (9223372036854775807 : Int) = true) →
                ((u64ok (9223372036854775807 : Int)) ∧
                 (∃ x44 : Wh,
                  RepW x44 x33 x34 x35 x36 x37 x38 x39 x13)) ∧
                (∀ x45 : Int,
                 ∀ x46 : Int,
                 ∀ x47 : Int,
                 ∀ x48 : Int,
                 ∀ x49 : Int,
                 ∀ x50 : List (Int × (Int × Int)),
                 ∀ x51 : List (Int × (Int × Int)),
                 ∀ x52 : List Int,
                 (ToPost (9223372036854775807 : Int) x33 x34 x35 x36 x37 x38 x39 x13 x45 x46 x47 x48 x49 x50 x51 x52) →
                 ∃ x53 : Int → List Int → Prop,
                 ∃ x54 : Int → List Int → Nat,
                 (x53 (0 : Int) x40) ∧
                 (∀ x55 : Int,
                  ∀ x56 : List Int,
                  (x53 x55 x56) →
                  ((litCmp BinOp.lss x55 (↑(List.length x52) : Int) = true) →
                   (((0 : Int) ≤ x55) ∧
                    (x55 < (↑(List.length x52) : Int))) ∧
                   (∀ x57 : Int,
                    (x57 = ix x52 x55) →
                    ((litCmp BinOp.lss x57 (0 : Int) = true) →
                     (True) ∧
                     (False)) ∧
                    ((litCmp BinOp.lss x57 (0 : Int) = false) →
                     ((litCmp BinOp.geq x57 (↑(List.length x1) : Int) = true) →
                      (True) ∧
                      (False)) ∧
                     ((litCmp BinOp.geq x57 (↑(List.length x1) : Int) = false) →
                      (((0 : Int) ≤ x57) ∧
                       (x57 < (↑(List.length x56) : Int))) ∧
                      (∀ x58 : Int,
                       (x58 = ix x56 x57) →
                       ((litCmp BinOp.gtr x58 (0 : Int) = true) →
                        (True) ∧
                        (False)) ∧
                       ((litCmp BinOp.gtr x58 (0 : Int) = false) →
                        (((0 : Int) ≤ x57) ∧
                         (x57 < (↑(List.length x56) : Int))) ∧
                        (∀ x59 : Int,
                         (x59 = ix x56 x57) →
                         ∀ x60 : Int,
                         (x60 = litArith BinOp.add IntKind.i64 x59 (1 : Int)) →
                         (((0 : Int) ≤ x57) ∧
                          (x57 < (↑(List.length x56) : Int))) ∧
                         (∀ x61 : List Int,
                          (x61 = List.set x56 (Int.toNat x57) x60) →
                          (((0 : Int) ≤ x57) ∧
                           (x57 < (↑(List.length x1) : Int))) ∧
                          (∀ x62 : Int,
                           (x62 = ix x1 x57) →
                           ∀ x63 : Int,
                           (x63 = litArith BinOp.and IntKind.u64 x62 (4611686018427387903 : Int)) →
                           ∀ x64 : Int,
                           (x64 = litArith BinOp.add IntKind.u64 x0 x63) →
                           ((litCmp BinOp.gtr x64 (9223372036854775807 : Int) = true) →
                            (True) ∧
                            (False)) ∧
                           ((litCmp BinOp.gtr x64 (9223372036854775807 : Int) = false) →
                            ((litCmp BinOp.leq x64 x32 = true) →
                             ((litCmp BinOp.neq x32 x0 = true) →
                              (True) ∧
                              (False)) ∧
                             ((litCmp BinOp.neq x32 x0 = false) →
                              ∀ x65 : Int,
                              (x65 = litArith BinOp.add IntKind.i64 x55 (1 : Int)) →
                              (x0 = x0) ∧
                              ((x1 = x1) ∧
                               (((↑(List.length x1) : Int) = (↑(List.length x1) : Int)) ∧
                                ((x32 = x32) ∧
                                 ((x41 = x41) ∧
                                  (((1 : Int) + (↑(List.length x2) : Int) + (1 : Int) = (1 : Int) + (↑(List.length x2) : Int) + (1 : Int)) ∧
                                   ((x31 = x31) ∧
                                    ((litCmp BinOp.lss x31 ((1 : Int) + (↑(List.length x2) : Int) + (1 : Int)) = litCmp BinOp.lss x31 ((1 : Int) + (↑(List.length x2) : Int) + (1 : Int))) ∧
                                     ((x31 = x31) ∧
                                      ((x41 = x41) ∧
                                       ((x32 = x32) ∧
                                        ((x41 = x41) ∧
                                         ((x42 = x42) ∧
                                          ((x43 = x43) ∧
                                           ((x41 = x41) ∧
                                            ((litCmp BinOp.eql x41 (9223372036854775807 : Int) = litCmp BinOp.eql x41 (9223372036854775807 : Int)) ∧
                                             (((↑(List.length x52) : Int) = (↑(List.length x52) : Int)) ∧
                                              ((x45 = x45) ∧
                                               ((x46 = x46) ∧
                                                ((x47 = x47) ∧
                                                 ((x48 = x48) ∧
                                                  ((x49 = x49) ∧
                                                   ((x50 = x50) ∧
                                                    (((↑(List.length x50) : Int) = (↑(List.length x50) : Int)) ∧
                                                     ((x51 = x51) ∧
                                                      (((↑(List.length x51) : Int) = (↑(List.length x51) : Int)) ∧
                                                       ((x13 = x13) ∧
                                                        (((↑(List.length x13) : Int) = (↑(List.length x13) : Int)) ∧
                                                         ((x28 = x28) ∧
                                                          (((1 : Int) + (↑(List.length x2) : Int) + (1 : Int) = (1 : Int) + (↑(List.length x2) : Int) + (1 : Int)) ∧
                                                           (([(9223372036854775807 : Int)] = [(9223372036854775807 : Int)]) ∧
                                                            ((x52 = x52) ∧
                                                             (((↑(List.length x52) : Int) = (↑(List.length x52) : Int)) ∧
                                                              ((x53 x65 x61) ∧
                                                               (x54 x65 x61 < x54 x55 x56)))))))))))))))))))))))))))))))))))) ∧
                            ((litCmp BinOp.leq x64 x32 = false) →
                             ∀ x66 : Int,
                             (x66 = litArith BinOp.add IntKind.i64 x55 (1 : Int)) →
                             (x0 = x0) ∧
                             ((x1 = x1) ∧
                              (((↑(List.length x1) : Int) = (↑(List.length x1) : Int)) ∧
                               ((x32 = x32) ∧
                                ((x41 = x41) ∧
                                 (((1 : Int) + (↑(List.length x2) : Int) + (1 : Int) = (1 : Int) + (↑(List.length x2) : Int) + (1 : Int)) ∧
                                  ((x31 = x31) ∧
                                   ((litCmp BinOp.lss x31 ((1 : Int) + (↑(List.length x2) : Int) + (1 : Int)) = litCmp BinOp.lss x31 ((1 : Int) + (↑(List.length x2) : Int) + (1 : Int))) ∧
                                    ((x31 = x31) ∧
                                     ((x41 = x41) ∧
                                      ((x32 = x32) ∧
                                       ((x41 = x41) ∧
                                        ((x42 = x42) ∧
                                         ((x43 = x43) ∧
                                          ((x41 = x41) ∧
                                           ((litCmp BinOp.eql x41 (9223372036854775807 : Int) = litCmp BinOp.eql x41 (9223372036854775807 : Int)) ∧
                                            (((↑(List.length x52) : Int) = (↑(List.length x52) : Int)) ∧
                                             ((x45 = x45) ∧
                                              ((x46 = x46) ∧
                                               ((x47 = x47) ∧
                                                ((x48 = x48) ∧
                                                 ((x49 = x49) ∧
                                                  ((x50 = x50) ∧
                                                   (((↑(List.length x50) : Int) = (↑(List.length x50) : Int)) ∧
                                                    ((x51 = x51) ∧
                                                     (((↑(List.length x51) : Int) = (↑(List.length x51) : Int)) ∧
                                                      ((x13 = x13) ∧
                                                       (((↑(List.length x13) : Int) = (↑(List.length x13) : Int)) ∧
                                                        ((x28 = x28) ∧
                                                         (((1 : Int) + (↑(List.length x2) : Int) + (1 : Int) = (1 : Int) + (↑(List.length x2) : Int) + (1 : Int)) ∧
                                                          (([(9223372036854775807 : Int)] = [(9223372036854775807 : Int)]) ∧
                                                           ((x52 = x52) ∧
                                                            (((↑(List.length x52) : Int) = (↑(List.length x52) : Int)) ∧
                                                             ((x53 x66 x61) ∧
                                                              (x54 x66 x61 < x54 x55 x56))))))))))))))))))))))))))))))))))))))))))))) ∧
                  ((litCmp BinOp.lss x55 (↑(List.length x52) : Int) = false) →
                   ∀ x67 : Int,
                   (x67 = if x32 < (9223372036854775807 : Int) then (9223372036854775807 : Int) else x32) →
                   ∀ x68 : Int,
                   (x68 = litArith BinOp.add IntKind.i64 x31 (1 : Int)) →
                   (x0 = x0) ∧
                   ((x1 = x1) ∧
                    (((↑(List.length x1) : Int) = (↑(List.length x1) : Int)) ∧
                     (((1 : Int) + (↑(List.length x2) : Int) + (1 : Int) = (1 : Int) + (↑(List.length x2) : Int) + (1 : Int)) ∧
                      ((x13 = x13) ∧
                       (((↑(List.length x13) : Int) = (↑(List.length x13) : Int)) ∧
                        ((x28 = x28) ∧
                         (((1 : Int) + (↑(List.length x2) : Int) + (1 : Int) = (1 : Int) + (↑(List.length x2) : Int) + (1 : Int)) ∧
                          (([(9223372036854775807 : Int)] = [(9223372036854775807 : Int)]) ∧
                           ((x29 x68 x67 x45 x46 x47 x48 x49 x50 x51 x56) ∧
                            (x30 x68 x67 x45 x46 x47 x48 x49 x50 x51 x56 < x30 x31 x32 x33 x34 x35 x36 x37 x38 x39 x40)))))))))))))) ∧
               ((litCmp BinOp.eql x41 (9223372036854775807 : Int) = false) →
                ((u64ok x43) ∧
                 (∃ x69 : Wh,
                  RepW x69 x33 x34 x35 x36 x37 x38 x39 x13)) ∧
                (∀ x70 : Int,
                 ∀ x71 : Int,
                 ∀ x72 : Int,
                 ∀ x73 : Int,
                 ∀ x74 : Int,
                 ∀ x75 : List (Int × (Int × Int)),
                 ∀ x76 : List (Int × (Int × Int)),
                 ∀ x77 : List Int,
                 (ToPost x43 x33 x34 x35 x36 x37 x38 x39 x13 x70 x71 x72 x73 x74 x75 x76 x77) →
                 ∃ x78 : Int → List Int → Prop,
                 ∃ x79 : Int → List Int → Nat,
                 (x78 (0 : Int) x40) ∧
                 (∀ x80 : Int,
                  ∀ x81 : List Int,
                  (x78 x80 x81) →
                  ((litCmp BinOp.lss x80 (↑(List.length x77) : Int) = true) →
                   (((0 : Int) ≤ x80) ∧
                    (x80 < (↑(List.length x77) : Int))) ∧
                   (∀ x82 : Int,
                    (x82 = ix x77 x80) →
                    ((litCmp BinOp.lss x82 (0 : Int) = true) →
                     (True) ∧
                     (False)) ∧
                    ((litCmp BinOp.lss x82 (0 : Int) = false) →
                     ((litCmp BinOp.geq x82 (↑(List.length x1) : Int) = true) →
                      (True) ∧
                      (False)) ∧
                     ((litCmp BinOp.geq x82 (↑(List.length x1) : Int) = false) →
                      (((0 : Int) ≤ x82) ∧
                       (x82 < (↑(List.length x81) : Int))) ∧
                      (∀ x83 : Int,
                       (x83 = ix x81 x82) →
                       ((litCmp BinOp.gtr x83 (0 : Int) = true) →
                        (True) ∧
                        (False)) ∧
                       ((litCmp BinOp.gtr x83 (0 : Int) = false) →
                        (((0 : Int) ≤ x82) ∧
                         (x82 < (↑(List.length x81) : Int))) ∧
                        (∀ x84 : Int,
                         (x84 = ix x81 x82) →
                         ∀ x85 : Int,
                         (x85 = litArith BinOp.add IntKind.i64 x84 (1 : Int)) →
                         (((0 : Int) ≤ x82) ∧
                          (x82 < (↑(List.length x81) : Int))) ∧
                         (∀ x86 : List Int,
                          (x86 = List.set x81 (Int.toNat x82) x85) →
                          (((0 : Int) ≤ x82) ∧
                           (x82 < (↑(List.length x1) : Int))) ∧
                          (∀ x87 : Int,
                           (x87 = ix x1 x82) →
                           ∀ x88 : Int,
                           (x88 = litArith BinOp.and IntKind.u64 x87 (4611686018427387903 : Int)) →
                           ∀ x89 : Int,
                           (x89 = litArith BinOp.add IntKind.u64 x0 x88) →
                           ((litCmp BinOp.gtr x89 x43 = true) →
                            (True) ∧
                            (False)) ∧
                           ((litCmp BinOp.gtr x89 x43 = false) →
                            ((litCmp BinOp.leq x89 x32 = true) →
                             ((litCmp BinOp.neq x32 x0 = true) →
                              (True) ∧
                              (False)) ∧
                             ((litCmp BinOp.neq x32 x0 = false) →
                              ∀ x90 : Int,
                              (x90 = litArith BinOp.add IntKind.i64 x80 (1 : Int)) →
                              (x0 = x0) ∧
                              ((x1 = x1) ∧
                               (((↑(List.length x1) : Int) = (↑(List.length x1) : Int)) ∧
                                ((x32 = x32) ∧
                                 ((x41 = x41) ∧
                                  ((x43 = x43) ∧
                                   (((1 : Int) + (↑(List.length x2) : Int) + (1 : Int) = (1 : Int) + (↑(List.length x2) : Int) + (1 : Int)) ∧
                                    ((x31 = x31) ∧
                                     ((litCmp BinOp.lss x31 ((1 : Int) + (↑(List.length x2) : Int) + (1 : Int)) = litCmp BinOp.lss x31 ((1 : Int) + (↑(List.length x2) : Int) + (1 : Int))) ∧
                                      ((x31 = x31) ∧
                                       ((x41 = x41) ∧
                                        ((x32 = x32) ∧
                                         ((x41 = x41) ∧
                                          ((x42 = x42) ∧
                                           ((x43 = x43) ∧
                                            ((x41 = x41) ∧
                                             ((litCmp BinOp.eql x41 (9223372036854775807 : Int) = litCmp BinOp.eql x41 (9223372036854775807 : Int)) ∧
                                              ((x43 = x43) ∧
                                               (((↑(List.length x77) : Int) = (↑(List.length x77) : Int)) ∧
                                                ((x70 = x70) ∧
                                                 ((x71 = x71) ∧
                                                  ((x72 = x72) ∧
                                                   ((x73 = x73) ∧
                                                    ((x74 = x74) ∧
                                                     ((x75 = x75) ∧
                                                      (((↑(List.length x75) : Int) = (↑(List.length x75) : Int)) ∧
                                                       ((x76 = x76) ∧
                                                        (((↑(List.length x76) : Int) = (↑(List.length x76) : Int)) ∧
                                                         ((x13 = x13) ∧
                                                          (((↑(List.length x13) : Int) = (↑(List.length x13) : Int)) ∧
                                                           ((x28 = x28) ∧
                                                            (((1 : Int) + (↑(List.length x2) : Int) + (1 : Int) = (1 : Int) + (↑(List.length x2) : Int) + (1 : Int)) ∧
                                                             (([(9223372036854775807 : Int)] = [(9223372036854775807 : Int)]) ∧
                                                              ((x77 = x77) ∧
                                                               (((↑(List.length x77) : Int) = (↑(List.length x77) : Int)) ∧
                                                                ((x78 x90 x86) ∧
                                                                 (x79 x90 x86 < x79 x80 x81)))))))))))))))))))))))))))))))))))))) ∧
                            ((litCmp BinOp.leq x89 x32 = false) →
                             ∀ x91 : Int,
                             (x91 = litArith BinOp.add IntKind.i64 x80 (1 : Int)) →
                             (x0 = x0) ∧
                             ((x1 = x1) ∧
                              (((↑(List.length x1) : Int) = (↑(List.length x1) : Int)) ∧
                               ((x32 = x32) ∧
                                ((x41 = x41) ∧
                                 ((x43 = x43) ∧
                                  (((1 : Int) + (↑(List.length x2) : Int) + (1 : Int) = (1 : Int) + (↑(List.length x2) : Int) + (1 : Int)) ∧
                                   ((x31 = x31) ∧
                                    ((litCmp BinOp.lss x31 ((1 : Int) + (↑(List.length x2) : Int) + (1 : Int)) = litCmp BinOp.lss x31 ((1 : Int) + (↑(List.length x2) : Int) + (1 : Int))) ∧
                                     ((x31 = x31) ∧
                                      ((x41 = x41) ∧
                                       ((x32 = x32) ∧
                                        ((x41 = x41) ∧
                                         ((x42 = x42) ∧
                                          ((x43 = x43) ∧
                                           ((x41 = x41) ∧
                                            ((litCmp BinOp.eql x41 (9223372036854775807 : Int) = litCmp BinOp.eql x41 (9223372036854775807 : Int)) ∧
                                             ((x43 = x43) ∧
                                              (((↑(List.length x77) : Int) = (↑(List.length x77) : Int)) ∧
                                               ((x70 = x70) ∧
                                                ((x71 = x71) ∧
                                                 ((x72 = x72) ∧
                                                  ((x73 = x73) ∧
                                                   ((x74 = x74) ∧
                                                    ((x75 = x75) ∧
                                                     (((↑(List.length x75) : Int) = (↑(List.length x75) : Int)) ∧
                                                      ((x76 = x76) ∧
                                                       (((↑(List.length x76) : Int) = (↑(List.length x76) : Int)) ∧
                                                        ((x13 = x13) ∧
                                                         (((↑(List.length x13) : Int) = (↑(List.length x13) : Int)) ∧
                                                          ((x28 = x28) ∧
                                                           (((1 : Int) + (↑(List.length x2) : Int) + (1 : Int) = (1 : Int) + (↑(List.length x2) : Int) + (1 : Int)) ∧
                                                            (([(9223372036854775807 : Int)] = [(9223372036854775807 : Int)]) ∧
                                                             ((x77 = x77) ∧
                                                              (((↑(List.length x77) : Int) = (↑(List.length x77) : Int)) ∧
                                                               ((x78 x91 x86) ∧
                                                                (x79 x91 x86 < x79 x80 x81))))))))))))))))))))))))))))))))))))))))))))))) ∧
                  ((litCmp BinOp.lss x80 (↑(List.length x77) : Int) = false) →
                   ∀ x92 : Int,
                   (x92 = if x32 < x43 then x43 else x32) →
                   ∀ x93 : Int,
                   (x93 = litArith BinOp.add IntKind.i64 x31 (1 : Int)) →
                   (x0 = x0) ∧
                   ((x1 = x1) ∧
                    (((↑(List.length x1) : Int) = (↑(List.length x1) : Int)) ∧
                     (((1 : Int) + (↑(List.length x2) : Int) + (1 : Int) = (1 : Int) + (↑(List.length x2) : Int) + (1 : Int)) ∧
                      ((x13 = x13) ∧
                       (((↑(List.length x13) : Int) = (↑(List.length x13) : Int)) ∧
                        ((x28 = x28) ∧
                         (((1 : Int) + (↑(List.length x2) : Int) + (1 : Int) = (1 : Int) + (↑(List.length x2) : Int) + (1 : Int)) ∧
                          (([(9223372036854775807 : Int)] = [(9223372036854775807 : Int)]) ∧
                           ((x29 x93 x92 x70 x71 x72 x73 x74 x75 x76 x81) ∧
                            (x30 x93 x92 x70 x71 x72 x73 x74 x75 x76 x81 < x30 x31 x32 x33 x34 x35 x36 x37 x38 x39 x40)))))))))))))))) ∧
             ((litCmp BinOp.lss x31 ((1 : Int) + (↑(List.length x2) : Int) + (1 : Int)) = false) →
              ∃ x94 : Int → Prop,
              ∃ x95 : Int → Nat,
              (x94 (0 : Int)) ∧
              (∀ x96 : Int,
               (x94 x96) →
               ((litCmp BinOp.lss x96 (↑(List.length x40) : Int) = true) →
                (((0 : Int) ≤ x96) ∧
                 (x96 < (↑(List.length x40) : Int))) ∧
                (∀ x97 : Int,
                 (x97 = ix x40 x96) →
                 ((litCmp BinOp.neq x97 (1 : Int) = true) →
                  (True) ∧
                  (False)) ∧
                 ((litCmp BinOp.neq x97 (1 : Int) = false) →
                  ∀ x98 : Int,
                  (x98 = litArith BinOp.add IntKind.i64 x96 (1 : Int)) →
                  ((↑(List.length x40) : Int) = (↑(List.length x40) : Int)) ∧
                  ((x33 = x33) ∧
                   ((x34 = x34) ∧
                    ((x35 = x35) ∧
                     ((x36 = x36) ∧
                      ((x37 = x37) ∧
                       ((x38 = x38) ∧
                        (((↑(List.length x38) : Int) = (↑(List.length x38) : Int)) ∧
                         ((x39 = x39) ∧
                          (((↑(List.length x39) : Int) = (↑(List.length x39) : Int)) ∧
                           ((x13 = x13) ∧
                            (((↑(List.length x13) : Int) = (↑(List.length x13) : Int)) ∧
                             ((x40 = x40) ∧
                              (((↑(List.length x40) : Int) = (↑(List.length x40) : Int)) ∧
                               ((x28 = x28) ∧
                                (((1 : Int) + (↑(List.length x2) : Int) + (1 : Int) = (1 : Int) + (↑(List.length x2) : Int) + (1 : Int)) ∧
                                 (([(9223372036854775807 : Int)] = [(9223372036854775807 : Int)]) ∧
                                  ((x94 x98) ∧
                                   (x95 x98 < x95 x96))))))))))))))))))))) ∧
               ((litCmp BinOp.lss x96 (↑(List.length x40) : Int) = false) →
                (IsW x33 x34 x35 x36 x37 x38 x39 x13) ∧
                (True →
                 (True) ∧
                 ((litCmp BinOp.eql (lenW x34 x35 x36 x37 x39) (0 : Int) = true) ∧
                  (True))))))))))))))))) := by
  rintro now gaps steps ⟨⟨⟨_, hn⟩, hg⟩, hs⟩
  have hn := u64_of hn
  have hnow := hn.1
  simp only [gtrT, gtrF, lssT, lssF, leqT, leqF, geqT, geqF, eqlT, eqlF, neqT, neqF, true_and, and_true, true_implies, implies_true, Bool.not_eq_true', Bool.not_eq_false', bne_iff_ne, ne_eq, not_true_eq_false, not_false_eq_true, Int.toNat_natCast, same_self, reduceCtorEq, false_implies, List.nil_append]
  intro hl1 hl2 hl3
  obtain ⟨n, hlen⟩ : ∃ n, gaps.length = n := ⟨_, rfl⟩
  obtain ⟨f, hf⟩ : ∃ f : Nat → Int × Int, f = fun i : Nat => (litArith .add .u64 now (litArith .and .u64 (ix gaps (i : Int)) 4611686018427387903), IntKind.wrap .u64 (i : Int)) := ⟨_, rfl⟩
  have hf1 : ∀ i : Nat, i < n → (f i).1 = now + ix gaps (i : Int) % 4611686018427387904 := fun i hi => by
    rw [hf]
    simp only [mask62 (u64_ix hg (k := (i : Int)) (by omega) (by omega))]
    exact addU_ (by omega) (by omega)
  have h0 : RepW (setP f n (fun i => decide (i < 0)), now) now 0 0 0 0 (List.replicate (cut4096 ((List.length gaps : Nat) : Int)) ((-1 : Int), (-1 : Int), (-1 : Int))) (List.replicate (258 : Nat) ((-1 : Int), (-1 : Int), (0 : Int))) (List.replicate (cut4096 ((List.length gaps : Nat) : Int)) ((0 : Int), (0 : Int))) := by
    rw [hlen, ← new_P f (n := n) (by omega)]
    exact RepW.new hn
  refine ⟨hn, ?_⟩
  refine ⟨fun k e d0 d1 d2 d3 L E M => ∃ m : Nat, k = m ∧ m ≤ n ∧ RepW (setP f n (fun i => decide (i < m)), now) e d0 d1 d2 d3 L E M, fun k _ _ _ _ _ _ _ _ => ((n : Int) - k).toNat, ⟨0, rfl, Nat.zero_le _, h0⟩, ?_⟩
  rintro k e d0 d1 d2 d3 L E M ⟨m, rfl, hm, ha⟩
  rw [hlen]
  refine ⟨fun hk => ⟨⟨by omega, hk⟩, ?_⟩, fun hk => ?_⟩
  · have hmn : m < n := by omega
    have hfm : f m = (litArith .add .u64 now (litArith .and .u64 (ix gaps (m : Int)) 4611686018427387903), IntKind.wrap .u64 (m : Int)) := by rw [hf]
    have hset := set_P (f := f) (now := now) hmn
    rw [hfm] at hset
    simp only at hset
    rintro _ rfl _ rfl _ rfl _ rfl
    refine ⟨⟨ha.is, addU_ok _ _, wrapU_ok _⟩, ?_⟩
    intro a0 a1 a2 a3 L1 E1 M1 b1 hp
    obtain ⟨h1, hb1⟩ := ha.set (addU_ok _ _) (wrapU_ok _) hp
    rw [hset] at h1 hb1
    refine ⟨fun q => by rw [hb1] at q; simp at q, fun _ => ?_⟩
    rintro _ rfl
    rw [addI_ (by omega) (by omega)]
    exact ⟨⟨m + 1, by omega, by omega, h1⟩, meas hk⟩
  · obtain rfl : m = n := by omega
    rw [all_P] at ha
    refine ⟨⟨by omega, by omega⟩, ⟨by omega, by omega⟩, ?_⟩
    rintro _ rfl
    refine ⟨⟨by omega, by omega⟩, ?_⟩
    rintro x28 hx28
    have hnow2 : now ≤ 4611686018427387904 := hl3
    have hnw := ha.nw
    simp only at hnw
    have hfm : ∀ i : Nat, i < m → (f i).1 ≤ 9223372036854775807 := fun i hi => by
      have := hf1 i hi
      omega
    have hx28u : ∀ k : Int, 0 ≤ k → k < 1 + (steps.length : Int) + 1 → u64ok (ix x28 k) := fun k k0 k1 => by
      have hk : k.toNat < x28.length := by rw [hx28]; simp; omega
      have hmem : ix x28 k ∈ x28 := by
        unfold ix
        rw [List.getD_eq_getElem?_getD, List.getElem?_eq_getElem hk]
        exact List.getElem_mem hk
      rw [hx28] at hmem
      simp only [List.mem_append, List.mem_singleton] at hmem
      rw [← hx28] at hmem
      rcases hmem with (e | e) | e
      · rw [e]; exact ⟨by omega, by omega⟩
      · obtain ⟨a, ha1, ha2⟩ := List.mem_iff_getElem.1 e
        have := u64_ix hs (k := (a : Int)) (by omega) (by omega)
        unfold ix at this
        rw [List.getD_eq_getElem?_getD, Int.toNat_natCast, List.getElem?_eq_getElem ha1] at this
        rw [← ha2]; exact this
      · rw [e]; exact ⟨by omega, by omega⟩
    have hx28l : ix x28 (1 + (steps.length : Int)) = 9223372036854775807 := by
      unfold ix
      rw [List.getD_eq_getElem?_getD, hx28, List.getElem?_append_right (by simp; omega), show (1 + (steps.length : Int)).toNat - ([(0 : Int)] ++ steps).length = 0 from by simp; omega]
      rfl
    have hat : ∀ i : Nat, litArith .add .u64 now (litArith .and .u64 (ix gaps (i : Int)) 4611686018427387903) = (f i).1 := fun i => by rw [hf]
    refine ⟨fun k T e c0 c1 c2 c3 L E told => ∃ (q : Nat) (p : Nat → Bool), k = q ∧ q ≤ steps.length + 2 ∧ T = e ∧ now ≤ T ∧ T ≤ 9223372036854775807 + (q : Int) * 144115188075855872 ∧ RepW (setP f m p, T) T c0 c1 c2 c3 L E M ∧ told = cntP m p ∧ (q = 0 → T = now) ∧ (q ≠ 0 → ∀ i, i < m → p i = true → T < (f i).1) ∧ (q = steps.length + 2 → 9223372036854775807 ≤ T),
      fun k _ _ _ _ _ _ _ _ _ => ((steps.length + 2 : Int) - k).toNat, ⟨0, fun _ => true, rfl, by omega, hnw, Int.le_refl _, by omega, by rw [← hnw] at ha; exact ha, cntP_none.symm, fun _ => rfl, fun h => absurd rfl h, fun h => by omega⟩, ?_⟩
    rintro k T e c0 c1 c2 c3 L1 E1 told ⟨q, p, rfl, hq, rfl, hT0, hT1, hrep, rfl, hi0, hi1, hi2⟩
    have hq62 : (q : Int) ≤ 62 := by omega
    -- one step to a time
    have step : ∀ (to : Int) (e1 a0 a1 a2 a3 : Int) (L2 E2 : List (Int × Int × Int)) (o : List Int), ToPost to T c0 c1 c2 c3 L1 E1 M e1 a0 a1 a2 a3 L2 E2 o →
        o = outP f m (fun i => p i && decide ((f i).1 ≤ if T < to then to else T)) ∧ e1 = (if T < to then to else T) ∧ RepW (setP f m (fun i => p i && !decide ((f i).1 ≤ if T < to then to else T)), if T < to then to else T) (if T < to then to else T) a0 a1 a2 a3 L2 E2 M := by
      intro to e1 a0 a1 a2 a3 L2 E2 o hp
      obtain ⟨h1, ho1⟩ := hp _ hrep
      rw [setP_to.1] at h1
      rw [setP_to.2] at ho1
      have := h1.nw
      simp only at this
      rw [← this] at h1
      exact ⟨ho1, this.symm, h1⟩
    have inner : ∀ (T' : Int) (o : List Int), o = outP f m (fun i => p i && decide ((f i).1 ≤ T')) → ∀ (j : Int) (l : List Int), TellI m p o j l → j < o.length → ∃ i : Nat, ix o j = i ∧ (i : Int) < m ∧ ix l (i : Int) = 0 ∧ l.length = m ∧ (f i).1 ≤ T' ∧ ((f i).1 ≤ T → T = now) ∧ (f i).1 ≤ 9223372036854775807 ∧ litArith .add .i64 j 1 = j + 1 ∧ TellI m p o (j + 1) (l.set i 1) := by
      intro T' o ho j l hI hj
      obtain ⟨i, w1, w2, w3, w4, w5, w6, w7⟩ := hI.step ho hj
      have hol : (o.length : Int) ≤ 64 := by
        rw [ho]
        have := outP_len f m (fun i => p i && decide ((f i).1 ≤ T'))
        omega
      refine ⟨i, w1, by omega, w5, w6, w4, fun hle => ?_, hfm i w2, addI_ (by have := hI.1; omega) (by omega), w7⟩
      by_cases hz : q = 0
      · exact hi0 hz
      · have := hi1 hz i w2 w3
        omega
    have gone : ∀ (to : Int), u64ok to → T ≤ to ∨ to = 9223372036854775807 → to ≤ T + 144115188075855872 ∨ to = 9223372036854775807 → (q + 1 = steps.length + 2 → to = 9223372036854775807) → ∀ (a0 a1 a2 a3 : Int) (L2 E2 : List (Int × Int × Int)) (o l : List Int) (j : Int), o = outP f m (fun i => p i && decide ((f i).1 ≤ if T < to then to else T)) →
        RepW (setP f m (fun i => p i && !decide ((f i).1 ≤ if T < to then to else T)), if T < to then to else T) (if T < to then to else T) a0 a1 a2 a3 L2 E2 M → TellI m p o j l → ¬ j < o.length → (q : Int) < 1 + (steps.length : Int) + 1 →
        ∃ (q' : Nat) (p' : Nat → Bool), litArith .add .i64 (q : Int) 1 = q' ∧ q' ≤ steps.length + 2 ∧ (if T < to then to else T) = (if T < to then to else T) ∧ now ≤ (if T < to then to else T) ∧ (if T < to then to else T) ≤ 9223372036854775807 + (q' : Int) * 144115188075855872 ∧ RepW (setP f m p', if T < to then to else T) (if T < to then to else T) a0 a1 a2 a3 L2 E2 M ∧ l = cntP m p' ∧ (q' = 0 → (if T < to then to else T) = now) ∧ (q' ≠ 0 → ∀ i, i < m → p' i = true → (if T < to then to else T) < (f i).1) ∧ (q' = steps.length + 2 → 9223372036854775807 ≤ (if T < to then to else T)) := by
      intro to hu hto hto2 hend a0 a1 a2 a3 L2 E2 o l j ho hR hI hj hk
      have hl := hI.done ho hj
      refine ⟨q + 1, fun i => p i && !decide ((f i).1 ≤ if T < to then to else T), by rw [addI_ (by omega) (by omega)]; omega, by omega, rfl, by split <;> omega, by split <;> omega, hR, hl, fun h => by omega, fun _ i _ hp => ?_, fun h => ?_⟩
      · simp only [Bool.and_eq_true, Bool.not_eq_true', decide_eq_false_iff_not] at hp
        omega
      · have := hend h
        split <;> omega
    have hT2 : T < 18446744073709551616 - 144115188075855872 := by omega
    refine ⟨fun hk => ⟨⟨by omega, hk⟩, ?_⟩, fun hk => ?_⟩
    · rintro s hs _ rfl _ rfl
      have hsu : u64ok s := by rw [hs]; exact hx28u _ (by omega) hk
      refine ⟨fun hlast => ?_, fun hlast => ?_⟩
      · refine ⟨⟨⟨by omega, by omega⟩, _, hrep⟩, ?_⟩
        intro e1 a0 a1 a2 a3 L2 E2 o hp
        obtain ⟨ho, rfl, hR⟩ := step _ _ _ _ _ _ _ _ _ hp
        refine ⟨TellI m p o, fun j _ => ((o.length : Int) - j).toNat, TellI.start, ?_⟩
        intro j l hI
        refine ⟨fun hj => ⟨⟨hI.1, hj⟩, ?_⟩, fun hj => ?_⟩
        · obtain ⟨i, w1, w2, w3, w4, w5, w6, w7, w8, w9⟩ := inner _ _ ho j l hI hj
          rintro _ rfl
          rw [w1]
          refine ⟨fun z => by omega, fun _ => ⟨fun z => by omega, fun _ => ⟨⟨by omega, by omega⟩, ?_⟩⟩⟩
          rintro _ rfl
          rw [w3]
          refine ⟨fun z => by omega, fun _ => ⟨⟨by omega, by omega⟩, ?_⟩⟩
          rintro _ rfl _ rfl
          refine ⟨⟨by omega, by omega⟩, ?_⟩
          rintro _ rfl
          refine ⟨⟨by omega, by omega⟩, ?_⟩
          rintro _ rfl _ rfl _ rfl
          rw [hat i, Int.toNat_natCast, w8]
          have e01 : litArith .add .i64 0 1 = 1 := rfl
          rw [e01]
          refine ⟨fun z => by omega, fun _ => ⟨fun z => ⟨fun y => y (w6 z), fun _ => ?_⟩, fun _ => ?_⟩⟩
          all_goals
            rintro _ rfl
            exact ⟨w9, meas hj⟩
        · rintro _ rfl _ rfl
          have hg := gone 9223372036854775807 ⟨by omega, by omega⟩ (.inr rfl) (.inr rfl) (fun _ => rfl) a0 a1 a2 a3 L2 E2 o l j ho hR hI (by omega) hk
          refine ⟨hg, ?_⟩
          rw [addI_ (by omega) (by omega)]
          exact meas (by omega)
      · have hmod : litArith .and .u64 s 144115188075855871 = s % 144115188075855872 := mask57 hsu
        have hto : litArith .add .u64 T (litArith .and .u64 s 144115188075855871) = T + s % 144115188075855872 := by
          rw [hmod]; exact addU_ (by omega) (by omega)
        rw [hto]
        have hend : q + 1 = steps.length + 2 → T + s % 144115188075855872 = 9223372036854775807 := fun h => by
          have : s = 9223372036854775807 := by rw [hs, show (q : Int) = 1 + (steps.length : Int) from by omega]; exact hx28l
          exact absurd this hlast
        obtain ⟨to, hto'⟩ : ∃ to, to = T + s % 144115188075855872 := ⟨_, rfl⟩
        rw [← hto'] at hend ⊢
        have hu : u64ok to := ⟨by omega, by omega⟩
        refine ⟨⟨hu, _, hrep⟩, ?_⟩
        intro e1 a0 a1 a2 a3 L2 E2 o hp
        obtain ⟨ho, rfl, hR⟩ := step _ _ _ _ _ _ _ _ _ hp
        have hle : (if T < to then to else T) = to := by split <;> omega
        refine ⟨TellI m p o, fun j _ => ((o.length : Int) - j).toNat, TellI.start, ?_⟩
        intro j l hI
        refine ⟨fun hj => ⟨⟨hI.1, hj⟩, ?_⟩, fun hj => ?_⟩
        · obtain ⟨i, w1, w2, w3, w4, w5, w6, w7, w8, w9⟩ := inner _ _ ho j l hI hj
          rw [hle] at w5
          rintro _ rfl
          rw [w1]
          refine ⟨fun z => by omega, fun _ => ⟨fun z => by omega, fun _ => ⟨⟨by omega, by omega⟩, ?_⟩⟩⟩
          rintro _ rfl
          rw [w3]
          refine ⟨fun z => by omega, fun _ => ⟨⟨by omega, by omega⟩, ?_⟩⟩
          rintro _ rfl _ rfl
          refine ⟨⟨by omega, by omega⟩, ?_⟩
          rintro _ rfl
          refine ⟨⟨by omega, by omega⟩, ?_⟩
          rintro _ rfl _ rfl _ rfl
          rw [hat i, Int.toNat_natCast, w8]
          have e01 : litArith .add .i64 0 1 = 1 := rfl
          rw [e01]
          refine ⟨fun z => by omega, fun _ => ⟨fun z => ⟨fun y => y (w6 z), fun _ => ?_⟩, fun _ => ?_⟩⟩
          all_goals
            rintro _ rfl
            exact ⟨w9, meas hj⟩
        · rintro _ rfl _ rfl
          have hg := gone to hu (.inl (by omega)) (.inl (by omega)) hend a0 a1 a2 a3 L2 E2 o l j ho hR hI (by omega) hk
          refine ⟨hg, ?_⟩
          rw [addI_ (by omega) (by omega)]
          exact meas (by omega)
    · obtain rfl : q = steps.length + 2 := by omega
      have hfin : ∀ i, i < m → p i = false := fun i hi => by
        cases hp : p i with
        | false => rfl
        | true =>
          have h1 := hi1 (by omega) i hi hp
          have h2 := hi2 rfl
          have h3 := hfm i hi
          omega
      refine ⟨fun j => 0 ≤ j ∧ j ≤ m, fun j => ((m : Int) - j).toNat, ⟨Int.le_refl _, by omega⟩, ?_⟩
      rintro j ⟨j0, j1⟩
      rw [cntP_len]
      refine ⟨fun hj => ⟨⟨j0, hj⟩, ?_⟩, fun hj => ?_⟩
      · rintro _ rfl
        obtain ⟨i, rfl⟩ := Int.eq_ofNat_of_zero_le j0
        rw [cntP_ix (by omega), hfin i (by omega)]
        refine ⟨fun z => by simp at z, fun _ => ?_⟩
        rintro _ rfl
        rw [addI_ (by omega) (by omega)]
        exact ⟨⟨by omega, by omega⟩, meas hj⟩
      · refine ⟨hrep.is, ?_⟩
        rw [hrep.len_eq, lenR_none hfin]
set_option maxRecDepth 10000 in
theorem once_ok : conOnce.ok KK Try.prog 4 := by
  refine Con.of_vc ([(0, ⟨[], [(40, .d (.i .i64))], [(0, vW)], [0, 1, 2], []⟩), (2, ⟨[], [(66, .d (.i .i64)), (11, .d (.i .u64))], [(0, vW)], [0, 1, 3], []⟩), (4, ⟨[], [(80, .d (.i .i64))], [], [3], []⟩), (6, ⟨[], [(132, .d (.i .i64))], [], [], []⟩)]) ([]) TT_ok follows Try.func4 ?_ G39_ok (@toVC _ _ once_vc ?_)
  · kernel_rfl
  · kernel_rfl
noncomputable def G45 : List (FuncId × Con) := (4, conOnce) :: G39
theorem G45_ok : GOK KK Try.prog G45 := GOK.cons (Callable.of Try.func4 (by kernel_rfl) (by kernel_rfl)) once_ok G39_ok
end Go.Proofs.Ytlkmdighjgpdlaa
/- The row of WheelOnce. -/
namespace Go.Proofs.Ytlkmdighjgpdlaa.wheelOnceDone
open Go Go.ChangeShapes Go.WideShapes Go.ChangeAt Go.RowKit Go.Joins Go.Fx

theorem own : ownKnob Try.prog.godebug = none := by kernel_rfl
theorem laidOut : laidOutB Try.prog = true := by kernel_rfl
set_option maxRecDepth 100000 in
theorem lifted (os : Os) (started : os.Started) (H : Type) (enc : TypeId × Value → H) :
    ReturnsInHanded {} Try.checked os 4 .any (Rows.wheelOnceSpec.pre6 enc Try.prog Try.f4 Rows.wheelOnceRow.domain false) (Rows.wheelOnceSpec.post enc Try.prog Try.f4 false true false false) := by
  refine returnsInHanded_of_change (C := Try.checked) own started (by kernel_rfl) Try.func4
    (ChangeSpec.witness6 (enc := enc) (C := Try.checked) false ⟨#[], #[.int .u64 0, .slice none 0 0, .slice none 0 0], []⟩ 8 (by kernel_rfl) (by kernel_rfl) (by kernel_rfl) (by kernel_rfl)) ?_
  intro W base args ds gs before hval hW hcnd _
  have hW' := hW
  obtain ⟨p, q, hA, hV, rfl, hfz, hnd⟩ := hW
  obtain ⟨rfl, rfl⟩ := trodVars_none hV
  obtain ⟨us, h1, h2, h3⟩ := rowIn (d := 8) ([.i .u64, .sl (.i .u64), .sl (.i .u64)]) hA (by kernel_rfl) (fun j t v ht hv => hval j t v (by simpa using ht) (by simpa using hv))
  have hc := lawT_walk once_ok us h1 h2 W _ h3
  rw [Array.toArray_toList] at hc
  have hA' := hA
  rw [Try.params4] at hA'
  obtain ⟨v0, vs0, d0, ds0, p0, q0, e0, rfl, rfl, _, r0⟩ := trodAll_cons hA'
  obtain ⟨v1, vs1, d1, ds1, p1, q1, e1, rfl, rfl, _, r1⟩ := trodAll_cons r0
  obtain ⟨v2, vs2, d2, ds2, p2, q2, e2, rfl, rfl, _, r2⟩ := trodAll_cons r1
  obtain ⟨_, rfl, rfl⟩ := trodAll_nil r2
  refine hc.mono fun e W' ⟨he, bel⟩ => ?_
  subst he
  exact ⟨_, rfl, _, _, _, [], _, [], hW', trodAll_mk1 (shut_bool Try.underlying4 _), rowOut laidOut bel (by kernel_rfl) hA, rfl, bel.frame _, fun h => by cases h⟩

theorem over : Rows.wheelOnceRow.holds Try.pinned (OpenSpec.ofChange Rows.wheelOnceSpec) :=
  OpenClaim.holds_of_wide 4 Try.f4 rfl rfl rfl rfl rfl rfl rfl ⟨rfl, rfl, rfl, rfl, rfl⟩ rfl rfl rfl rfl rfl (by kernel_rfl) Try.func4 (by kernel_rfl)
    (of_decide_eq_true (by kernel_rfl)) (by unfold Func.isWrapper; first | (rw [if_pos (by decide +kernel)]; kernel_rfl) | (rw [if_neg (by decide +kernel)]; exact ⟨rfl, rfl⟩))
    (fun os started H enc _ => lifted os started H enc)

/-- The statement. -/
theorem proved : Rows.WheelOnceSaid := over
#print axioms proved
end Go.Proofs.Ytlkmdighjgpdlaa.wheelOnceDone
