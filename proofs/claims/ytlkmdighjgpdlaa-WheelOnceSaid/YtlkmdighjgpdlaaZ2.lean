/- Package wheel: the next time at which something may turn; the contract. -/
import Derived.Test.YtlkmdighjgpdlaaZ1
import Derived.Test.YtlkmdighjgpdlaaSo
import Derived.Test.YtlkmdighjgpdlaaFt
set_option linter.all false
namespace Go.Proofs.Ytlkmdighjgpdlaa
open Go Go.Fx

theorem andN_ {x : Int} (k : Nat) (hk : k < 64) (h0 : 0 ≤ x) (h1 : x < 18446744073709551616) : litArith .andNot .u64 x ((2 ^ k - 1 : Nat) : Int) = x / ((2 ^ k : Nat) : Int) * ((2 ^ k : Nat) : Int) := by
  obtain ⟨n, rfl⟩ := Int.eq_ofNat_of_zero_le h0
  have hp : 2 ^ k ≤ 2 ^ 63 := Nat.pow_le_pow_right (by omega) (by omega)
  have hn : n < 2 ^ 64 := by omega
  have e : (BitVec.ofInt 64 (n : Int) &&& ~~~ BitVec.ofInt 64 ((2 ^ k - 1 : Nat) : Int)).toNat = n / 2 ^ k * 2 ^ k := by
    apply Nat.eq_of_testBit_eq
    intro i
    rw [BitVec.ofInt_natCast, BitVec.ofInt_natCast, ← Nat.shiftRight_eq_div_pow, ← Nat.shiftLeft_eq, BitVec.testBit_toNat, BitVec.getLsbD_and, BitVec.getLsbD_not, BitVec.getLsbD_ofNat, BitVec.getLsbD_ofNat, Nat.testBit_two_pow_sub_one, Nat.testBit_shiftLeft, Nat.testBit_shiftRight]
    by_cases hi : i < 64
    · by_cases hik : k ≤ i
      · have : k + (i - k) = i := by omega
        simp [hi, hik, this, Nat.not_lt.2 hik]
      · simp [hi, hik]
        intro _
        omega
    · have : n.testBit i = false := Nat.testBit_lt_two_pow (Nat.lt_of_lt_of_le hn (Nat.pow_le_pow_right (by omega) (by omega)))
      by_cases hik : k ≤ i
      · have e2 : k + (i - k) = i := by omega
        simp [hi, hik, e2, this]
      · omega
  have hm : n / 2 ^ k * 2 ^ k ≤ n := Nat.div_mul_le_self _ _
  show IntKind.wrap .u64 ((BitVec.ofInt 64 (n : Int) &&& ~~~ BitVec.ofInt 64 ((2 ^ k - 1 : Nat) : Int)).toNat : Int) = _
  rw [e, wrapU_ (by omega) (by omega)]
  push_cast
  rfl
def NextPost (to now c0 c1 c2 c3 : Int) (L E : List Lk) (M : List (Int × Int)) (t : Int) : Prop :=
  ∀ n Q, CQ n Q c0 c1 c2 c3 L E → M.length = n → (∀ k i, k ∈ Q i → strong now (ix M k).1 i) → (∃ k i, k ∈ Q i ∧ i ≠ 256) → now < t ∧ t ≤ to ∧ ∀ k i, k ∈ Q i → stepOK t (ix M k).1 i
def cR (c0 c1 c2 c3 : Int) : Nat → Int
  | 0 => c0
  | 1 => c1
  | 2 => c2
  | _ => c3
/-- The least row that is not empty, of those gone over. -/
def Least (c0 c1 c2 c3 step r : Int) : Prop :=
  (step = 16777216 ∧ ∀ r' : Nat, r < r' → r' < 4 → cR c0 c1 c2 c3 r' ≤ 0) ∨ ∃ q : Nat, q < 4 ∧ r < q ∧ step = sp q ∧ 0 < cR c0 c1 c2 c3 q ∧ ∀ r' : Nat, r < r' → r' < q → cR c0 c1 c2 c3 r' ≤ 0
section
variable {to now c0 c1 c2 c3 step : Int} {L E : List Lk} {M : List (Int × Int)}
theorem Least.hit {r : Nat} (hr : r < 4) (h : 0 < cR c0 c1 c2 c3 r) : Least c0 c1 c2 c3 (sp r) ((r : Int) - 1) := .inr ⟨r, hr, by omega, rfl, h, fun r' a b => by omega⟩
theorem Least.miss {r : Nat} (h : Least c0 c1 c2 c3 step r) (hz : cR c0 c1 c2 c3 r ≤ 0) : Least c0 c1 c2 c3 step ((r : Int) - 1) := by
  rcases h with ⟨e, h⟩ | ⟨q, a, b, e, hc, h⟩
  · refine .inl ⟨e, fun r' x y => ?_⟩
    by_cases c : r' = r
    · rw [c]; exact hz
    · exact h r' (by omega) y
  · refine .inr ⟨q, a, by omega, e, hc, fun r' x y => ?_⟩
    by_cases c : r' = r
    · rw [c]; exact hz
    · exact h r' (by omega) y
theorem CQ.row {n : Nat} {Q : Int → List Int} (h : CQ n Q c0 c1 c2 c3 L E) {r : Nat} (hr : r < 4) : cR c0 c1 c2 c3 r = cnt Q r := by
  obtain ⟨_, rfl, rfl, rfl, rfl⟩ := h
  have : r = 0 ∨ r = 1 ∨ r = 2 ∨ r = 3 := by omega
  rcases this with rfl | rfl | rfl | rfl <;> rfl
theorem CQ.row_empty {n : Nat} {Q : Int → List Int} (h : CQ n Q c0 c1 c2 c3 L E) {r : Nat} (hr : r < 4) (hz : cR c0 c1 c2 c3 r ≤ 0) {i : Int} (h0 : 64 * (r : Int) ≤ i) (h1 : i < 64 * (r : Int) + 64) : Q i = [] := by
  rw [h.row hr] at hz
  exact cntN_zero hz i h0 h1
theorem next_fit {q : Nat} (hq : q < 4) (hc : 0 < cR c0 c1 c2 c3 q) (hw : IsW now c0 c1 c2 c3 L E M) {n : Nat} {Q : Int → List Int} (h : CQ n Q c0 c1 c2 c3 L E) (hM : M.length = n) (hs : ∀ k i, k ∈ Q i → strong now (ix M k).1 i) : now / sp q * sp q + sp q < 18446744073709551616 := by
  rw [h.row hq] at hc
  obtain ⟨i, k, i0, i1, hk⟩ := cntN_mem hc
  have hr := h.rep.mem i k hk
  have hm := (hw.marks k hr.1 (by rw [hM]; exact hr.2)).1.2
  rcases hs k i hk with ⟨e, _⟩ | ⟨e, _⟩ | ⟨r, hr4, e, a, _⟩
  · omega
  · omega
  · have hrg := slot_range hr4 (ix M k).1
    have : r = q := by omega
    subst this
    have : r = 0 ∨ r = 1 ∨ r = 2 ∨ r = 3 := by omega
    rcases this with rfl | rfl | rfl | rfl <;> simp only [sp] at * <;> omega
theorem next_over {q : Nat} (hq : q < 4) (hc : 0 < cR c0 c1 c2 c3 q) (hw : IsW now c0 c1 c2 c3 L E M) (ho : ¬ now / sp q * sp q + sp q < 18446744073709551616) (t : Int) : NextPost to now c0 c1 c2 c3 L E M t := fun n Q h hM hs _ => absurd (next_fit hq hc hw h hM hs) ho
theorem next_near {q : Nat} (hq : q < 4) (hz : ∀ r' : Nat, r' < q → cR c0 c1 c2 c3 r' ≤ 0) (hlt : now < to) (h0 : 0 ≤ now) {t : Int} (ht : t = if to < now / sp q * sp q + sp q then to else now / sp q * sp q + sp q) : NextPost to now c0 c1 c2 c3 L E M t := fun n Q h hM hs _ => by
  have tle : t ≤ now / sp q * sp q + sp q := by rw [ht]; split <;> omega
  have hq4 : q = 0 ∨ q = 1 ∨ q = 2 ∨ q = 3 := by omega
  refine ⟨?_, by rw [ht]; split <;> omega, fun k i hk => ?_⟩
  · rw [ht]
    split
    · exact hlt
    · rcases hq4 with rfl | rfl | rfl | rfl <;> simp only [sp] at * <;> omega
  · rcases hs k i hk with ⟨rfl, _⟩ | ⟨rfl, a⟩ | ⟨r, hr4, e, a, _⟩
    · exact ⟨fun e => by omega, fun r a b c => by omega⟩
    · refine ⟨fun _ => ?_, fun r a b c => by omega⟩
      rcases hq4 with rfl | rfl | rfl | rfl <;> simp only [sp] at * <;> omega
    · have hrg := slot_range hr4 (ix M k).1
      refine ⟨fun e' => by omega, fun r' a' b' c' => ?_⟩
      have : r' = r := by omega
      subst this
      have hge : q ≤ r' := Classical.byContradiction fun c => by
        have := h.row_empty hr4 (hz r' (by omega)) b' c'
        rw [this] at hk; cases hk
      have hr : r' = 0 ∨ r' = 1 ∨ r' = 2 ∨ r' = 3 := by omega
      clear ht e hrg hk hz
      rcases hq4 with rfl | rfl | rfl | rfl <;> rcases hr with rfl | rfl | rfl | rfl <;> simp only [sp] at * <;> omega
/-- The least time of some alarms. -/
def LeastAt (M : List (Int × Int)) (l : List Int) (x : Int) : Prop := u64ok x ∧ (∀ k, k ∈ l → x ≤ (ix M k).1) ∧ (l = [] ∨ ∃ k, k ∈ l ∧ x = (ix M k).1)
theorem LeastAt.more {l : List Int} {x k : Int} (h : LeastAt M l x) (hk : u64ok (ix M k).1) (hl : l = [] → x = 18446744073709551615) : LeastAt M (l ++ [k]) (if (ix M k).1 < x then (ix M k).1 else x) := by
  obtain ⟨h1, h2, h3⟩ := h
  refine ⟨by split <;> assumption, fun k' hk' => ?_, .inr ?_⟩
  · rcases List.mem_append.1 hk' with c | c
    · have := h2 k' c
      split <;> omega
    · simp at c; subst c
      split <;> omega
  · by_cases c : (ix M k).1 < x
    · exact ⟨k, by simp, by rw [if_pos c]⟩
    · rw [if_neg c]
      rcases h3 with e | ⟨k', hk', e⟩
      · have := hl e
        exact ⟨k, by simp, by have := hk.2; omega⟩
      · exact ⟨k', by simp [hk'], e⟩
theorem next_far {l : List Int} {x t : Int} (hz : ∀ r' : Nat, r' < 4 → cR c0 c1 c2 c3 r' ≤ 0) (hl : ∀ n Q, CQ n Q c0 c1 c2 c3 L E → l = Q 257) (hx : LeastAt M l x) (hlt : now < to) (h0 : 0 ≤ now)
    (ht : t = if to < (if x / sp 4 * sp 4 < now + 1 then now + 1 else x / sp 4 * sp 4) then to else if x / sp 4 * sp 4 < now + 1 then now + 1 else x / sp 4 * sp 4) : NextPost to now c0 c1 c2 c3 L E M t := fun n Q h hM hs _ => by
  have hlQ := hl n Q h
  have tge : now < t := by rw [ht]; split <;> (try split) <;> omega
  have tle : t ≤ to := by rw [ht]; split <;> omega
  have tle2 : t ≤ now + 1 ∨ t ≤ x / sp 4 * sp 4 := by rw [ht]; split <;> split at * <;> omega
  refine ⟨tge, tle, fun k i hk => ?_⟩
  rcases hs k i hk with ⟨rfl, _⟩ | ⟨rfl, a⟩ | ⟨r, hr4, e, a, _⟩
  · exact ⟨fun e => by omega, fun r a b c => by omega⟩
  · refine ⟨fun _ => ?_, fun r a b c => by omega⟩
    have := hx.2.1 k (by rw [hlQ]; exact hk)
    simp only [sp] at *
    omega
  · have hrg := slot_range hr4 (ix M k).1
    have := h.row_empty hr4 (hz r hr4) (i := i) (by omega) (by omega)
    rw [this] at hk; cases hk
end
def conNext : Con := (mkCon [.is (.lp 0 0), .d (.i .u64)] [vW, vL] [rL, rE, rM]
  (fun (to now c0 c1 c2 c3 : Int) (L E : List Lk) (M : List (Int × Int)) => IsW now c0 c1 c2 c3 L E M ∧ u64ok to ∧ now < to) [.i .u64]
  (fun (to now c0 c1 c2 c3 : Int) (L E : List Lk) (M : List (Int × Int)) (t : Int) => NextPost to now c0 c1 c2 c3 L E M t)
  (fun (to now c0 c1 c2 c3 : Int) (L E : List Lk) (M : List (Int × Int)) (t : Int) => u64 t) (constX [] _) (constX [] _)).look
end Go.Proofs.Ytlkmdighjgpdlaa
/- Package wheel: the next time. -/
namespace Go.Proofs.Ytlkmdighjgpdlaa
open Go Go.Fx

set_option maxRecDepth 10000 in
theorem wnext_vc :
  ∀ x0 : Int,
  ∀ x1 : Int,
  ∀ x2 : Int,
  ∀ x3 : Int,
  ∀ x4 : Int,
  ∀ x5 : Int,
  ∀ x6 : List (Int × (Int × Int)),
  ∀ x7 : List (Int × (Int × Int)),
  ∀ x8 : List (Int × Int),
  ((IsW x1 x2 x3 x4 x5 x6 x7 x8) ∧
    ((u64ok x0) ∧
     (x1 < x0))) →
  ∃ x9 : Int → Int → Prop,
  ∃ x10 : Int → Int → Nat,
  (x9 (16777216 : Int) (3 : Int)) ∧
  (∀ x11 : Int,
   ∀ x12 : Int,
   (x9 x11 x12) →
   ((litCmp BinOp.geq x12 (0 : Int) = true) →
    (((0 : Int) ≤ x12) ∧
     (x12 < (4 : Int))) ∧
    (((x12 = (0 : Int)) →
      ((litCmp BinOp.gtr x2 (0 : Int) = true) →
       ∀ x13 : Int,
       (x13 = litArith BinOp.mul IntKind.i64 (6 : Int) x12) →
       ((0 : Int) ≤ x13) ∧
       (∀ x14 : Int,
        (x14 = litArith BinOp.shl IntKind.u64 (1 : Int) x13) →
        ∀ x15 : Int,
        (x15 = litArith BinOp.sub IntKind.i64 x12 (1 : Int)) →
        (x0 = x0) ∧
        ((x1 = x1) ∧
         ((x2 = x2) ∧
          ((x3 = x3) ∧
           ((x4 = x4) ∧
            ((x5 = x5) ∧
             ((x6 = x6) ∧
              (((↑(List.length x6) : Int) = (↑(List.length x6) : Int)) ∧
               ((x7 = x7) ∧
                (((↑(List.length x7) : Int) = (↑(List.length x7) : Int)) ∧
                 ((x8 = x8) ∧
                  (((↑(List.length x8) : Int) = (↑(List.length x8) : Int)) ∧
                   ((x9 x14 x15) ∧
                    (x10 x14 x15 < x10 x11 x12))))))))))))))) ∧
      ((litCmp BinOp.gtr x2 (0 : Int) = false) →
       ∀ x16 : Int,
       (x16 = litArith BinOp.sub IntKind.i64 x12 (1 : Int)) →
       (x0 = x0) ∧
       ((x1 = x1) ∧
        ((x2 = x2) ∧
         ((x3 = x3) ∧
          ((x4 = x4) ∧
           ((x5 = x5) ∧
            ((x6 = x6) ∧
             (((↑(List.length x6) : Int) = (↑(List.length x6) : Int)) ∧
              ((x7 = x7) ∧
               (((↑(List.length x7) : Int) = (↑(List.length x7) : Int)) ∧
                ((x8 = x8) ∧
                 (((↑(List.length x8) : Int) = (↑(List.length x8) : Int)) ∧
                  ((x9 x11 x16) ∧
                   (x10 x11 x16 < x10 x11 x12))))))))))))))) ∧
     (((x12 = (1 : Int)) →
       ((litCmp BinOp.gtr x3 (0 : Int) = true) →
        ∀ x17 : Int,
        (x17 = litArith BinOp.mul IntKind.i64 (6 : Int) x12) →
        ((0 : Int) ≤ x17) ∧
        (∀ x18 : Int,
         (x18 = litArith BinOp.shl IntKind.u64 (1 : Int) x17) →
         ∀ x19 : Int,
         (x19 = litArith BinOp.sub IntKind.i64 x12 (1 : Int)) →
         (x0 = x0) ∧
         ((x1 = x1) ∧
          ((x2 = x2) ∧
           ((x3 = x3) ∧
            ((x4 = x4) ∧
             ((x5 = x5) ∧
              ((x6 = x6) ∧
               (((↑(List.length x6) : Int) = (↑(List.length x6) : Int)) ∧
                ((x7 = x7) ∧
                 (((↑(List.length x7) : Int) = (↑(List.length x7) : Int)) ∧
                  ((x8 = x8) ∧
                   (((↑(List.length x8) : Int) = (↑(List.length x8) : Int)) ∧
                    ((x9 x18 x19) ∧
                     (x10 x18 x19 < x10 x11 x12))))))))))))))) ∧
       ((litCmp BinOp.gtr x3 (0 : Int) = false) →
        ∀ x20 : Int,
        (x20 = litArith BinOp.sub IntKind.i64 x12 (1 : Int)) →
        (x0 = x0) ∧
        ((x1 = x1) ∧
         ((x2 = x2) ∧
          ((x3 = x3) ∧
           ((x4 = x4) ∧
            ((x5 = x5) ∧
             ((x6 = x6) ∧
              (((↑(List.length x6) : Int) = (↑(List.length x6) : Int)) ∧
               ((x7 = x7) ∧
                (((↑(List.length x7) : Int) = (↑(List.length x7) : Int)) ∧
                 ((x8 = x8) ∧
                  (((↑(List.length x8) : Int) = (↑(List.length x8) : Int)) ∧
                   ((x9 x11 x20) ∧
                    (x10 x11 x20 < x10 x11 x12))))))))))))))) ∧
      (((x12 = (2 : Int)) →
        ((litCmp BinOp.gtr x4 (0 : Int) = true) →
         ∀ x21 : Int,
         (x21 = litArith BinOp.mul IntKind.i64 (6 : Int) x12) →
         ((0 : Int) ≤ x21) ∧
         (∀ x22 : Int,
          (x22 = litArith BinOp.shl IntKind.u64 (1 : Int) x21) →
          ∀ x23 : Int,
          (x23 = litArith BinOp.sub IntKind.i64 x12 (1 : Int)) →
          (x0 = x0) ∧
          ((x1 = x1) ∧
           ((x2 = x2) ∧
            ((x3 = x3) ∧
             ((x4 = x4) ∧
              ((x5 = x5) ∧
               ((x6 = x6) ∧
                (((↑(List.length x6) : Int) = (↑(List.length x6) : Int)) ∧
                 ((x7 = x7) ∧
                  (((↑(List.length x7) : Int) = (↑(List.length x7) : Int)) ∧
                   ((x8 = x8) ∧
                    (((↑(List.length x8) : Int) = (↑(List.length x8) : Int)) ∧
                     ((x9 x22 x23) ∧
                      (x10 x22 x23 < x10 x11 x12))))))))))))))) ∧
        ((litCmp BinOp.gtr x4 (0 : Int) = false) →
         ∀ x24 : Int,
         (x24 = litArith BinOp.sub IntKind.i64 x12 (1 : Int)) →
         (x0 = x0) ∧
         ((x1 = x1) ∧
          ((x2 = x2) ∧
           ((x3 = x3) ∧
            ((x4 = x4) ∧
             ((x5 = x5) ∧
              ((x6 = x6) ∧
               (((↑(List.length x6) : Int) = (↑(List.length x6) : Int)) ∧
                ((x7 = x7) ∧
                 (((↑(List.length x7) : Int) = (↑(List.length x7) : Int)) ∧
                  ((x8 = x8) ∧
                   (((↑(List.length x8) : Int) = (↑(List.length x8) : Int)) ∧
                    ((x9 x11 x24) ∧
                     (x10 x11 x24 < x10 x11 x12))))))))))))))) ∧
       ((x12 = (3 : Int)) →
        ((litCmp BinOp.gtr x5 (0 : Int) = true) →
         ∀ x25 : Int,
         (x25 = litArith BinOp.mul IntKind.i64 (6 : Int) x12) →
         ((0 : Int) ≤ x25) ∧
         (∀ x26 : Int,
          (x26 = litArith BinOp.shl IntKind.u64 (1 : Int) x25) →
          ∀ x27 : Int,
          (x27 = litArith BinOp.sub IntKind.i64 x12 (1 : Int)) →
          (x0 = x0) ∧
          ((x1 = x1) ∧
           ((x2 = x2) ∧
            ((x3 = x3) ∧
             ((x4 = x4) ∧
              ((x5 = x5) ∧
               ((x6 = x6) ∧
                (((↑(List.length x6) : Int) = (↑(List.length x6) : Int)) ∧
                 ((x7 = x7) ∧
                  (((↑(List.length x7) : Int) = (↑(List.length x7) : Int)) ∧
                   ((x8 = x8) ∧
                    (((↑(List.length x8) : Int) = (↑(List.length x8) : Int)) ∧
                     ((x9 x26 x27) ∧
                      (x10 x26 x27 < x10 x11 x12))))))))))))))) ∧
        ((litCmp BinOp.gtr x5 (0 : Int) = false) →
         ∀ x28 : Int,
         (x28 = litArith BinOp.sub IntKind.i64 x12 (1 : Int)) →
         (x0 = x0) ∧
         ((x1 = x1) ∧
          ((x2 = x2) ∧
           ((x3 = x3) ∧
            ((x4 = x4) ∧
             ((x5 = x5) ∧
              ((x6 = x6) ∧
               (((↑(List.length x6) : Int) = (↑(List.length x6) : Int)) ∧
                ((x7 = x7) ∧
                 (((↑(List.length x7) : Int) = (↑(List.length x7) : Int)) ∧
                  ((x8 = x8) ∧
                   (((↑(List.length x8) : Int) = (↑(List.length x8) : Int)) ∧
                    ((x9 x11 x28) ∧
                     (x10 x11 x28 < x10 x11 x12))))))))))))))))))) ∧
   ((litCmp BinOp.geq x12 (0 : Int) = false) →
    ((litCmp BinOp.eql x11 (16777216 : Int) = true) →
     (IsRep x6 x7) ∧
     (∀ x29 : List Int,
      (∀ x30 : Nat,
        ∀ x31 : Nat,
        ∀ x32 : Int → List Int,
        (Rep x30 x31 x32 x6 x7) →
        x29 = x32 (257 : Int)) →
      ∃ x33 : Int → Int → Prop,
      ∃ x34 : Int → Int → Nat,
      (x33 (18446744073709551615 : Int) (0 : Int)) ∧
      (∀ x35 : Int,
       ∀ x36 : Int,
       (x33 x35 x36) →
       ((litCmp BinOp.lss x36 (↑(List.length x29) : Int) = true) →
        (((0 : Int) ≤ x36) ∧
         (x36 < (↑(List.length x29) : Int))) ∧
        (∀ x37 : Int,
         (x37 = ix x29 x36) →
         (((0 : Int) ≤ x37) ∧
          (x37 < (↑(List.length x8) : Int))) ∧
         (∀ x38 : Int,
          (x38 = Prod.fst (ix x8 x37)) →
          ∀ x39 : Int,
          (x39 = if x38 < x35 then x38 else x35) →
          ∀ x40 : Int,
          (x40 = litArith BinOp.add IntKind.i64 x36 (1 : Int)) →
          (x0 = x0) ∧
          ((x11 = x11) ∧
           (((↑(List.length x29) : Int) = (↑(List.length x29) : Int)) ∧
            ((x1 = x1) ∧
             ((x2 = x2) ∧
              ((x3 = x3) ∧
               ((x4 = x4) ∧
                ((x5 = x5) ∧
                 ((x6 = x6) ∧
                  (((↑(List.length x6) : Int) = (↑(List.length x6) : Int)) ∧
                   ((x7 = x7) ∧
                    (((↑(List.length x7) : Int) = (↑(List.length x7) : Int)) ∧
                     ((x8 = x8) ∧
                      (((↑(List.length x8) : Int) = (↑(List.length x8) : Int)) ∧
                       ((x29 = x29) ∧
                        (((↑(List.length x29) : Int) = (↑(List.length x29) : Int)) ∧
                         ((x33 x39 x40) ∧
                          (x34 x39 x40 < x34 x35 x36)))))))))))))))))))) ∧
       ((litCmp BinOp.lss x36 (↑(List.length x29) : Int) = false) →
        ∀ x41 : Int,
        (x41 = litArith BinOp.andNot IntKind.u64 x35 (16777215 : Int)) →
        ∀ x42 : Int,
        (x42 = litArith BinOp.add IntKind.u64 x1 (1 : Int)) →
        ∀ x43 : Int,
        (x43 = if x41 < x42 then x42 else x41) →
        ∀ x44 : Int,
        (x44 = if x0 < x43 then x0 else x43) →
        ∃ x45 : Int,
        (NextPost x0 x1 x2 x3 x4 x5 x6 x7 x8 x45) ∧
        ((x44 = x45) ∧
         ((x1 = x1) ∧
          ((x2 = x2) ∧
           ((x3 = x3) ∧
            ((x4 = x4) ∧
             ((x5 = x5) ∧
              ((x6 = x6) ∧
               (((↑(List.length x6) : Int) = (↑(List.length x6) : Int)) ∧
                ((x7 = x7) ∧
                 (((↑(List.length x7) : Int) = (↑(List.length x7) : Int)) ∧
                  ((x8 = x8) ∧
                   (((↑(List.length x8) : Int) = (↑(List.length x8) : Int)) ∧
                    (True))))))))))))))))) ∧
    ((litCmp BinOp.eql x11 (16777216 : Int) = false) →
     ∀ x46 : Int,
     (x46 = litArith BinOp.sub IntKind.u64 x11 (1 : Int)) →
     ∀ x47 : Int,
     (x47 = litArith BinOp.andNot IntKind.u64 x1 x46) →
     ∀ x48 : Int,
     (x48 = litArith BinOp.add IntKind.u64 x47 x11) →
     ((litCmp BinOp.lss x48 x1 = true) →
      ∃ x49 : Int,
      (NextPost x0 x1 x2 x3 x4 x5 x6 x7 x8 x49) ∧
      ((x0 = x49) ∧
       ((x1 = x1) ∧
        ((x2 = x2) ∧
         ((x3 = x3) ∧
          ((x4 = x4) ∧
           ((x5 = x5) ∧
            ((x6 = x6) ∧
             (((↑(List.length x6) : Int) = (↑(List.length x6) : Int)) ∧
              ((x7 = x7) ∧
               (((↑(List.length x7) : Int) = (↑(List.length x7) : Int)) ∧
                ((x8 = x8) ∧
                 (((↑(List.length x8) : Int) = (↑(List.length x8) : Int)) ∧
                  (True)))))))))))))) ∧
     ((litCmp BinOp.lss x48 x1 = false) →
      ((litCmp BinOp.gtr x48 x0 = true) →
       ∃ x50 : Int,
       (NextPost x0 x1 x2 x3 x4 x5 x6 x7 x8 x50) ∧
       ((x0 = x50) ∧
        ((x1 = x1) ∧
         ((x2 = x2) ∧
          ((x3 = x3) ∧
           ((x4 = x4) ∧
            ((x5 = x5) ∧
             ((x6 = x6) ∧
              (((↑(List.length x6) : Int) = (↑(List.length x6) : Int)) ∧
               ((x7 = x7) ∧
                (((↑(List.length x7) : Int) = (↑(List.length x7) : Int)) ∧
                 ((x8 = x8) ∧
                  (((↑(List.length x8) : Int) = (↑(List.length x8) : Int)) ∧
                   (True)))))))))))))) ∧
      ((litCmp BinOp.gtr x48 x0 = false) →
       ∃ x51 : Int,
       (NextPost x0 x1 x2 x3 x4 x5 x6 x7 x8 x51) ∧
       ((x48 = x51) ∧
        ((x1 = x1) ∧
         ((x2 = x2) ∧
          ((x3 = x3) ∧
           ((x4 = x4) ∧
            ((x5 = x5) ∧
             ((x6 = x6) ∧
              (((↑(List.length x6) : Int) = (↑(List.length x6) : Int)) ∧
               ((x7 = x7) ∧
                (((↑(List.length x7) : Int) = (↑(List.length x7) : Int)) ∧
                 ((x8 = x8) ∧
                  (((↑(List.length x8) : Int) = (↑(List.length x8) : Int)) ∧
                   (True)))))))))))))))))) := by
  intro to now c0 c1 c2 c3 L E M ⟨h, hto, hlt⟩
  obtain ⟨n0, Q0, hq0, hM0⟩ := h.q
  obtain ⟨n0', n1'⟩ := h.now
  simp only [gtrT, gtrF, lssT, lssF, leqT, leqF, geqT, geqF, eqlT, eqlF, neqT, neqF, true_and, and_true, true_implies, implies_true, Bool.not_eq_true', Bool.not_eq_false', bne_iff_ne, ne_eq, not_true_eq_false, not_false_eq_true, Int.toNat_natCast, same_self, reduceCtorEq, false_implies, List.nil_append]
  refine ⟨fun step r => -1 ≤ r ∧ r ≤ 3 ∧ Least c0 c1 c2 c3 step r, fun _ r => (r + 1).toNat, ⟨by omega, by omega, .inl ⟨rfl, fun r' a b => by omega⟩⟩, ?_⟩
  rintro step r ⟨r0, r1, hL⟩
  refine ⟨fun hr => ⟨⟨hr, by omega⟩, ?_, ?_, ?_, ?_⟩, fun hr => ⟨fun hs => ⟨h.isRep, fun l hl => ?_⟩, fun hs => ?_⟩⟩
  · rintro rfl
    have e1 : litArith .shl .u64 1 (litArith .mul .i64 6 0) = sp 0 := by decide
    have e2 : litArith .sub .i64 0 1 = ((0 : Nat) : Int) - 1 := by decide
    have e3 : ((((0 : Nat) : Int) - 1) + 1).toNat < ((0 : Int) + 1).toNat := by decide
    refine ⟨fun hc => ?_, fun hc => ?_⟩
    · rintro _ rfl
      refine ⟨by decide, ?_⟩
      rintro _ rfl _ rfl
      rw [e1, e2]
      exact ⟨⟨by decide, by decide, Least.hit (by decide) hc⟩, e3⟩
    · rintro _ rfl
      rw [e2]
      exact ⟨⟨by decide, by decide, Least.miss (r := 0) hL hc⟩, e3⟩
  · rintro rfl
    have e1 : litArith .shl .u64 1 (litArith .mul .i64 6 1) = sp 1 := by decide
    have e2 : litArith .sub .i64 1 1 = ((1 : Nat) : Int) - 1 := by decide
    have e3 : ((((1 : Nat) : Int) - 1) + 1).toNat < ((1 : Int) + 1).toNat := by decide
    refine ⟨fun hc => ?_, fun hc => ?_⟩
    · rintro _ rfl
      refine ⟨by decide, ?_⟩
      rintro _ rfl _ rfl
      rw [e1, e2]
      exact ⟨⟨by decide, by decide, Least.hit (by decide) hc⟩, e3⟩
    · rintro _ rfl
      rw [e2]
      exact ⟨⟨by decide, by decide, Least.miss (r := 1) hL hc⟩, e3⟩
  · rintro rfl
    have e1 : litArith .shl .u64 1 (litArith .mul .i64 6 2) = sp 2 := by decide
    have e2 : litArith .sub .i64 2 1 = ((2 : Nat) : Int) - 1 := by decide
    have e3 : ((((2 : Nat) : Int) - 1) + 1).toNat < ((2 : Int) + 1).toNat := by decide
    refine ⟨fun hc => ?_, fun hc => ?_⟩
    · rintro _ rfl
      refine ⟨by decide, ?_⟩
      rintro _ rfl _ rfl
      rw [e1, e2]
      exact ⟨⟨by decide, by decide, Least.hit (by decide) hc⟩, e3⟩
    · rintro _ rfl
      rw [e2]
      exact ⟨⟨by decide, by decide, Least.miss (r := 2) hL hc⟩, e3⟩
  · rintro rfl
    have e1 : litArith .shl .u64 1 (litArith .mul .i64 6 3) = sp 3 := by decide
    have e2 : litArith .sub .i64 3 1 = ((3 : Nat) : Int) - 1 := by decide
    have e3 : ((((3 : Nat) : Int) - 1) + 1).toNat < ((3 : Int) + 1).toNat := by decide
    refine ⟨fun hc => ?_, fun hc => ?_⟩
    · rintro _ rfl
      refine ⟨by decide, ?_⟩
      rintro _ rfl _ rfl
      rw [e1, e2]
      exact ⟨⟨by decide, by decide, Least.hit (by decide) hc⟩, e3⟩
    · rintro _ rfl
      rw [e2]
      exact ⟨⟨by decide, by decide, Least.miss (r := 3) hL hc⟩, e3⟩
  · have hz : ∀ r' : Nat, r' < 4 → cR c0 c1 c2 c3 r' ≤ 0 := by
      rcases hL with ⟨_, hz⟩ | ⟨q, hq, _, e, _⟩
      · exact fun r' a => hz r' (by omega) a
      · have : q = 0 ∨ q = 1 ∨ q = 2 ∨ q = 3 := by omega
        rcases this with rfl | rfl | rfl | rfl <;> simp only [sp] at e <;> omega
    have hlQ : ∀ n Q, CQ n Q c0 c1 c2 c3 L E → l = Q 257 := fun n Q hq => hl n 258 Q hq.rep
    have hlen := hq0.rep.len_le 257
    rw [← hlQ n0 Q0 hq0] at hlen
    have hsn := hq0.rep.sn
    refine ⟨fun x i => 0 ≤ i ∧ i ≤ l.length ∧ LeastAt M (l.take i.toNat) x ∧ (i = 0 → x = 18446744073709551615), fun _ i => ((l.length : Int) - i).toNat, ⟨Int.le_refl _, Int.natCast_nonneg _, ⟨⟨by omega, by omega⟩, fun k hk => (by cases hk), .inl rfl⟩, fun _ => rfl⟩, ?_⟩
    rintro x i ⟨i0, i1, hx, hx0⟩
    refine ⟨fun hi => ⟨⟨i0, hi⟩, ?_⟩, fun hi => ?_⟩
    · obtain ⟨m, rfl⟩ := Int.eq_ofNat_of_zero_le i0
      have hm : m < l.length := by omega
      have hix : ix l (m : Int) = l[m] := by
        unfold ix
        rw [List.getD_eq_getElem?_getD, Int.toNat_natCast, List.getElem?_eq_getElem hm, Option.getD_some]
      rintro _ rfl
      have hkm : l[m] ∈ Q0 257 := by rw [← hlQ n0 Q0 hq0]; exact List.getElem_mem hm
      have hkr := hq0.rep.mem _ _ hkm
      rw [hix]
      have htake : l.take (m + 1) = l.take m ++ [l[m]] := by rw [List.take_add_one, List.getElem?_eq_getElem hm]; rfl
      refine ⟨⟨hkr.1, by rw [hM0]; exact hkr.2⟩, ?_⟩
      rintro _ rfl _ rfl _ rfl
      rw [addI_ (by omega) (by omega)]
      refine ⟨⟨by omega, by omega, ?_, fun e => by omega⟩, meas hi⟩
      rw [show ((m : Int) + 1).toNat = m + 1 from by omega, htake]
      simp only [Int.toNat_natCast] at hx
      refine hx.more (h.marks _ hkr.1 (by rw [hM0]; exact hkr.2)).1 (fun e => hx0 ?_)
      have := congrArg List.length e
      simp only [List.length_take, List.length_nil] at this
      omega
    · have hxl : LeastAt M l x := by
        have : i.toNat = l.length := by omega
        rw [this, List.take_length] at hx
        exact hx
      have e1 : litArith .andNot .u64 x 16777215 = x / sp 4 * sp 4 := andN_ 24 (by decide) hxl.1.1 hxl.1.2
      have e2 : litArith .add .u64 now 1 = now + 1 := addU_ (by omega) (by have := hto.2; omega)
      rintro _ rfl _ rfl _ rfl _ rfl
      rw [e1, e2]
      exact ⟨_, next_far hz hlQ hxl hlt n0' rfl, rfl⟩
  · obtain ⟨q, hq, hc, hz, rfl⟩ : ∃ q : Nat, q < 4 ∧ 0 < cR c0 c1 c2 c3 q ∧ (∀ r' : Nat, r' < q → cR c0 c1 c2 c3 r' ≤ 0) ∧ step = sp q := by
      rcases hL with ⟨e, _⟩ | ⟨q, hq, _, e, hc, hz⟩
      · exact absurd e hs
      · exact ⟨q, hq, hc, fun r' a => hz r' (by omega) a, e⟩
    have e1 : litArith .andNot .u64 now (litArith .sub .u64 (sp q) 1) = now / sp q * sp q := by
      have : q = 0 ∨ q = 1 ∨ q = 2 ∨ q = 3 := by omega
      rcases this with rfl | rfl | rfl | rfl
      · exact andN_ 0 (by decide) n0' n1'
      · exact andN_ 6 (by decide) n0' n1'
      · exact andN_ 12 (by decide) n0' n1'
      · exact andN_ 18 (by decide) n0' n1'
    have hpos : 0 ≤ now / sp q * sp q + sp q ∧ now < now / sp q * sp q + sp q := by
      have : q = 0 ∨ q = 1 ∨ q = 2 ∨ q = 3 := by omega
      rcases this with rfl | rfl | rfl | rfl <;> simp only [sp] <;> omega
    rintro _ rfl _ rfl _ rfl
    rw [e1]
    by_cases ov : now / sp q * sp q + sp q < 18446744073709551616
    · rw [addU_ hpos.1 ov]
      refine ⟨fun h1 => absurd h1 (by omega), fun _ => ⟨fun h2 => ⟨_, next_near hq hz hlt n0' (t := to) (by rw [if_pos h2]), rfl⟩, fun h2 => ⟨_, next_near hq hz hlt n0' (t := now / sp q * sp q + sp q) (by rw [if_neg (by omega)]), rfl⟩⟩⟩
    · have no := fun t => next_over (to := to) hq hc h ov t
      exact ⟨fun _ => ⟨_, no _, rfl⟩, fun _ => ⟨fun _ => ⟨_, no _, rfl⟩, fun _ => ⟨_, no _, rfl⟩⟩⟩
set_option maxRecDepth 10000 in
theorem wnext_ok : conNext.ok KK Try.prog 36 := by
  refine Con.of_vc ([(0, ⟨[], [(5, .d (.i .u64)), (6, .d (.i .i64))], [], [], []⟩), (2, ⟨[], [(7, .d (.i .u64)), (33, .d (.i .i64))], [], [], []⟩)]) ([]) TT_ok follows Try.func36 ?_ G17_ok (@toVC _ _ wnext_vc ?_)
  · kernel_rfl
  · kernel_rfl
noncomputable def G18 : List (FuncId × Con) := (36, conNext) :: G17
theorem G18_ok : GOK KK Try.prog G18 := GOK.cons (Callable.of Try.func36 (by kernel_rfl) (by kernel_rfl)) wnext_ok G17_ok
end Go.Proofs.Ytlkmdighjgpdlaa
/- Package wheel: First; package nightjarref07: the contracts. -/
namespace Go.Proofs.Ytlkmdighjgpdlaa
open Go Go.Fx

/-- The first alarm of all. -/
def scan (on : Int → Bool) (at_ : Int → Int) : Nat → Int × Bool
  | 0 => (0, false)
  | s + 1 => if on s && (!(scan on at_ s).2 || decide (at_ s < (scan on at_ s).1)) then (at_ s, true) else scan on at_ s
def conFirstW : Con := (mkCon [.is (.lp 0 0)] [vW, vL] [rL, rE, rM]
  (fun (now c0 c1 c2 c3 : Int) (L E : List Lk) (M : List (Int × Int)) => IsW now c0 c1 c2 c3 L E M) [] (constX True _)
  (fun (now c0 c1 c2 c3 : Int) (L E : List Lk) (M : List (Int × Int)) => .tup [u64 (scan (fun k => (onC L k).2) (fun k => (ix M k).1) M.length).1, bb (scan (fun k => (onC L k).2) (fun k => (ix M k).1) M.length).2]) (constX [] _) (constX [] _)).look
abbrev Mk := Bool × Int × Int
abbrev Wh := List Mk × Int
abbrev tpMk : Tp := .p .bo (.p (.i .u64) (.i .u64))
abbrev tpWh : Tp := .p (.sl tpMk) (.i .u64)
def isR (w : Wh) (k : Int) : Bool := decide (0 ≤ k) && (decide (k < w.1.length) && (ix w.1 k).1)
def withR (w : Wh) (k : Int) (m : Mk) : Wh := (w.1.set k.toNat m, w.2)
def setR (w : Wh) (k at_ turn : Int) : Wh × Bool := if k < 0 ∨ (w.1.length : Int) ≤ k ∨ (ix w.1 k).1 = true then (w, false) else (withR w k (true, at_, turn), true)
def unsetR (w : Wh) (k : Int) : Wh × Bool := if isR w k then (withR w k (false, 0, 0), true) else (w, false)
def lenR (l : List Mk) : Int := (((l.filter fun m => m.1).length : Nat) : Int)
def conRNew : Con := (fnC [.d (.i .i64), .d (.i .u64)] (fun (n now : Int) => .x tpWh (List.replicate (cut4096 n) (false, 0, 0), now))).firm
def conRIs : Con := fnC [.d tpWh, .d (.i .i64)] (fun (w : Wh) (k : Int) => bb (isR w k))
def conRWith : Con := (fnP [.d tpWh, .d (.i .i64), .d tpMk] (fun (w : Wh) (k : Int) (m : Mk) => 0 ≤ k ∧ k < w.1.length ∧ w.1.length ≤ 4096) (fun (w : Wh) (k : Int) (m : Mk) => .x tpWh (withR w k m))).firm
def conRSet : Con := (fnP [.d tpWh, .d (.i .i64), .d (.i .u64), .d (.i .u64)] (fun (w : Wh) (k at_ turn : Int) => w.1.length ≤ 4096) (fun (w : Wh) (k at_ turn : Int) => .tup [.x tpWh (setR w k at_ turn).1, bb (setR w k at_ turn).2])).firm
def conRUnset : Con := (fnP [.d tpWh, .d (.i .i64)] (fun (w : Wh) (k : Int) => w.1.length ≤ 4096) (fun (w : Wh) (k : Int) => .tup [.x tpWh (unsetR w k).1, bb (unsetR w k).2])).firm
def conRLen : Con := fnP [.d tpWh] (fun (w : Wh) => w.1.length ≤ 4096) (fun (w : Wh) => i64 (lenR w.1))
def conRFirst : Con := fnP [.d tpWh] (fun (w : Wh) => w.1.length ≤ 4096) (fun (w : Wh) => .tup [u64 (scan (fun k => (ix w.1 k).1) (fun k => (ix w.1 k).2.1) w.1.length).1, bb (scan (fun k => (ix w.1 k).1) (fun k => (ix w.1 k).2.1) w.1.length).2])
end Go.Proofs.Ytlkmdighjgpdlaa
/- Package wheel: First; package nightjarref07. -/
namespace Go.Proofs.Ytlkmdighjgpdlaa
open Go Go.Fx

set_option maxRecDepth 10000 in
theorem wfirst_vc :
  ∀ x0 : Int,
  ∀ x1 : Int,
  ∀ x2 : Int,
  ∀ x3 : Int,
  ∀ x4 : Int,
  ∀ x5 : List (Int × (Int × Int)),
  ∀ x6 : List (Int × (Int × Int)),
  ∀ x7 : List (Int × Int),
  (IsW x0 x1 x2 x3 x4 x5 x6 x7) →
  ∃ x8 : Int → Int → Bool → Prop,
  ∃ x9 : Int → Int → Bool → Nat,
  (x8 (0 : Int) (0 : Int) false) ∧
  (∀ x10 : Int,
   ∀ x11 : Int,
   ∀ x12 : Bool,
   (x8 x10 x11 x12) →
   ((litCmp BinOp.lss x10 (↑(List.length x7) : Int) = true) →
    (IsW x0 x1 x2 x3 x4 x5 x6 x7) ∧
    (True →
     ((Prod.snd (Prod.snd (atC x5 x7 x10)) = true) →
      (((!x12) = true) →
       ∀ x13 : Int,
       (x13 = litArith BinOp.add IntKind.i64 x10 (1 : Int)) →
       ((↑(List.length x7) : Int) = (↑(List.length x7) : Int)) ∧
       ((x0 = x0) ∧
        ((x1 = x1) ∧
         ((x2 = x2) ∧
          ((x3 = x3) ∧
           ((x4 = x4) ∧
            ((x5 = x5) ∧
             (((↑(List.length x5) : Int) = (↑(List.length x5) : Int)) ∧
              ((x6 = x6) ∧
               (((↑(List.length x6) : Int) = (↑(List.length x6) : Int)) ∧
                ((x7 = x7) ∧
                 (((↑(List.length x7) : Int) = (↑(List.length x7) : Int)) ∧
                  ((x8 x13 (Prod.fst (atC x5 x7 x10)) true) ∧
                   (x9 x13 (Prod.fst (atC x5 x7 x10)) true < x9 x10 x11 x12)))))))))))))) ∧
      (((!x12) = false) →
       ((litCmp BinOp.lss (Prod.fst (atC x5 x7 x10)) x11 = true) →
        ∀ x14 : Int,
        (x14 = litArith BinOp.add IntKind.i64 x10 (1 : Int)) →
        ((↑(List.length x7) : Int) = (↑(List.length x7) : Int)) ∧
        ((x0 = x0) ∧
         ((x1 = x1) ∧
          ((x2 = x2) ∧
           ((x3 = x3) ∧
            ((x4 = x4) ∧
             ((x5 = x5) ∧
              (((↑(List.length x5) : Int) = (↑(List.length x5) : Int)) ∧
               ((x6 = x6) ∧
                (((↑(List.length x6) : Int) = (↑(List.length x6) : Int)) ∧
                 ((x7 = x7) ∧
                  (((↑(List.length x7) : Int) = (↑(List.length x7) : Int)) ∧
                   ((x8 x14 (Prod.fst (atC x5 x7 x10)) true) ∧
                    (x9 x14 (Prod.fst (atC x5 x7 x10)) true < x9 x10 x11 x12)))))))))))))) ∧
       ((litCmp BinOp.lss (Prod.fst (atC x5 x7 x10)) x11 = false) →
        ∀ x15 : Int,
        (x15 = litArith BinOp.add IntKind.i64 x10 (1 : Int)) →
        ((↑(List.length x7) : Int) = (↑(List.length x7) : Int)) ∧
        ((x0 = x0) ∧
         ((x1 = x1) ∧
          ((x2 = x2) ∧
           ((x3 = x3) ∧
            ((x4 = x4) ∧
             ((x5 = x5) ∧
              (((↑(List.length x5) : Int) = (↑(List.length x5) : Int)) ∧
               ((x6 = x6) ∧
                (((↑(List.length x6) : Int) = (↑(List.length x6) : Int)) ∧
                 ((x7 = x7) ∧
                  (((↑(List.length x7) : Int) = (↑(List.length x7) : Int)) ∧
                   ((x8 x15 x11 x12) ∧
                    (x9 x15 x11 x12 < x9 x10 x11 x12)))))))))))))))) ∧
     ((Prod.snd (Prod.snd (atC x5 x7 x10)) = false) →
      ∀ x16 : Int,
      (x16 = litArith BinOp.add IntKind.i64 x10 (1 : Int)) →
      ((↑(List.length x7) : Int) = (↑(List.length x7) : Int)) ∧
      ((x0 = x0) ∧
       ((x1 = x1) ∧
        ((x2 = x2) ∧
         ((x3 = x3) ∧
          ((x4 = x4) ∧
           ((x5 = x5) ∧
            (((↑(List.length x5) : Int) = (↑(List.length x5) : Int)) ∧
             ((x6 = x6) ∧
              (((↑(List.length x6) : Int) = (↑(List.length x6) : Int)) ∧
               ((x7 = x7) ∧
                (((↑(List.length x7) : Int) = (↑(List.length x7) : Int)) ∧
                 ((x8 x16 x11 x12) ∧
                  (x9 x16 x11 x12 < x9 x10 x11 x12)))))))))))))))) ∧
   ((litCmp BinOp.lss x10 (↑(List.length x7) : Int) = false) →
    (True) ∧
    ((x11 = Prod.fst (scan (fun (k : Int) => Prod.snd (onC x5 k)) (fun (k : Int) => Prod.fst (ix x7 k)) (List.length x7))) ∧
     ((x12 = Prod.snd (scan (fun (k : Int) => Prod.snd (onC x5 k)) (fun (k : Int) => Prod.fst (ix x7 k)) (List.length x7))) ∧
      ((x0 = x0) ∧
       ((x1 = x1) ∧
        ((x2 = x2) ∧
         ((x3 = x3) ∧
          ((x4 = x4) ∧
           ((x5 = x5) ∧
            (((↑(List.length x5) : Int) = (↑(List.length x5) : Int)) ∧
             ((x6 = x6) ∧
              (((↑(List.length x6) : Int) = (↑(List.length x6) : Int)) ∧
               ((x7 = x7) ∧
                (((↑(List.length x7) : Int) = (↑(List.length x7) : Int)) ∧
                 (True)))))))))))))))) := by
  intro now c0 c1 c2 c3 L E M h
  obtain ⟨n0, Q0, hq0, hM0⟩ := h.q
  have hsn := hq0.rep.sn
  simp only [gtrT, gtrF, lssT, lssF, leqT, leqF, geqT, geqF, eqlT, eqlF, neqT, neqF, true_and, and_true, true_implies, implies_true, Bool.not_eq_true', Bool.not_eq_false', bne_iff_ne, ne_eq, not_true_eq_false, not_false_eq_true, Int.toNat_natCast, same_self, reduceCtorEq, false_implies, List.nil_append]
  refine ⟨fun t x b => 0 ≤ t ∧ t ≤ M.length ∧ (x, b) = scan (fun k => (onC L k).2) (fun k => (ix M k).1) t.toNat, fun t _ _ => ((M.length : Int) - t).toNat, ⟨Int.le_refl _, Int.natCast_nonneg _, rfl⟩, ?_⟩
  rintro t x b ⟨t0, t1, hx⟩
  obtain ⟨m, rfl⟩ := Int.eq_ofNat_of_zero_le t0
  simp only [Int.toNat_natCast] at hx
  have hadd : m < M.length → litArith .add .i64 (m : Int) 1 = (m : Int) + 1 := fun _ => addI_ (by omega) (by omega)
  have hn : ((m : Int) + 1).toNat = m + 1 := by omega
  have hx1 : x = (scan (fun k => (onC L k).2) (fun k => (ix M k).1) m).1 := congrArg Prod.fst hx
  have hx2 : b = (scan (fun k => (onC L k).2) (fun k => (ix M k).1) m).2 := congrArg Prod.snd hx
  refine ⟨fun hi => ⟨h, fun ho => ⟨fun hb => ?_, fun hb => ⟨fun hlt => ?_, fun hlt => ?_⟩⟩, fun ho => ?_⟩, fun hi => ?_⟩
  · have hon : (onC L (m : Int)).2 = true := by unfold atC at ho; split at ho <;> simp_all
    have hat : (atC L M (m : Int)).1 = (ix M (m : Int)).1 := by simp [atC, hon]
    rintro _ rfl
    rw [hadd (by omega), hat]
    refine ⟨⟨by omega, by omega, ?_⟩, meas hi⟩
    rw [hn]
    simp [scan, hon, ← hx2, hb]
  · have hon : (onC L (m : Int)).2 = true := by unfold atC at ho; split at ho <;> simp_all
    have hat : (atC L M (m : Int)).1 = (ix M (m : Int)).1 := by simp [atC, hon]
    rw [hat] at hlt
    rintro _ rfl
    rw [hadd (by omega), hat]
    refine ⟨⟨by omega, by omega, ?_⟩, meas hi⟩
    rw [hn]
    simp [scan, hon, ← hx1, hlt]
  · have hon : (onC L (m : Int)).2 = true := by unfold atC at ho; split at ho <;> simp_all
    have hat : (atC L M (m : Int)).1 = (ix M (m : Int)).1 := by simp [atC, hon]
    rw [hat] at hlt
    rintro _ rfl
    rw [hadd (by omega)]
    refine ⟨⟨by omega, by omega, ?_⟩, meas hi⟩
    rw [hn, hx]
    have : ¬ (ix M (m : Int)).1 < x := by omega
    simp [scan, hon, ← hx1, ← hx2, hb, this]
  · have hon : (onC L (m : Int)).2 = false := by
      unfold atC at ho
      cases hh : (onC L (m : Int)).2 with
      | false => rfl
      | true => rw [hh] at ho; simp at ho
    rintro _ rfl
    rw [hadd (by omega)]
    refine ⟨⟨by omega, by omega, ?_⟩, meas hi⟩
    rw [hn, hx]
    simp [scan, hon]
  · have : m = M.length := by omega
    subst this
    rw [hx1, hx2]
    simp
set_option maxRecDepth 10000 in
theorem wfirst_ok : conFirstW.ok KK Try.prog 23 := by
  refine Con.of_vc ([(0, ⟨[], [(15, .d (.i .i64)), (4, .d (.i .u64)), (5, .d .bo)], [], [], []⟩)]) ([]) TT_ok follows Try.func23 ?_ G18_ok (@toVC _ _ wfirst_vc ?_)
  · kernel_rfl
  · kernel_rfl
noncomputable def G19 : List (FuncId × Con) := (23, conFirstW) :: G18
theorem G19_ok : GOK KK Try.prog G19 := GOK.cons (Callable.of Try.func23 (by kernel_rfl) (by kernel_rfl)) wfirst_ok G18_ok

set_option maxRecDepth 10000 in
theorem rnew_vc :
  ∀ x0 : Int,
  ∀ x1 : Int,
  True →
  ((litCmp BinOp.lss x0 (0 : Int) = true) →
   (((0 : Int) ≤ (0 : Int)) ∧
    ((0 : Int) ≤ (140737488355328 : Int))) ∧
   ((True) ∧
    ((([], x1) = (List.replicate (cut4096 x0) (false, (0 : Int), (0 : Int)), x1)) ∧
     (True)))) ∧
  ((litCmp BinOp.lss x0 (0 : Int) = false) →
   ((litCmp BinOp.gtr x0 (4096 : Int) = true) →
    (((0 : Int) ≤ (4096 : Int)) ∧
     ((98304 : Int) ≤ (140737488355328 : Int))) ∧
    ((True) ∧
     (((List.replicate (4096 : Nat) (false, (0 : Int), (0 : Int)), x1) = (List.replicate (cut4096 x0) (false, (0 : Int), (0 : Int)), x1)) ∧
      (True)))) ∧
   ((litCmp BinOp.gtr x0 (4096 : Int) = false) →
    (((0 : Int) ≤ x0) ∧
     (x0 * (24 : Int) ≤ (140737488355328 : Int))) ∧
    ((True) ∧
     (((List.replicate (Int.toNat x0) (false, (0 : Int), (0 : Int)), x1) = (List.replicate (cut4096 x0) (false, (0 : Int), (0 : Int)), x1)) ∧
      (True))))) := by
  intro n now _
  simp only [gtrT, gtrF, lssT, lssF, leqT, leqF, geqT, geqF, eqlT, eqlF, neqT, neqF, true_and, and_true, true_implies, implies_true, Bool.not_eq_true', Bool.not_eq_false', bne_iff_ne, ne_eq, not_true_eq_false, not_false_eq_true, Int.toNat_natCast, same_self, reduceCtorEq, false_implies, List.nil_append]
  refine ⟨fun h => ⟨by omega, by simp [cut4096, h]⟩, fun h => ⟨fun h1 => ⟨by omega, ?_⟩, fun h1 => ⟨by omega, ?_⟩⟩⟩
  · have : cut4096 n = 4096 := by unfold cut4096; rw [if_neg (by omega), if_pos h1]
    rw [this]
  · have : cut4096 n = n.toNat := by unfold cut4096; rw [if_neg (by omega), if_neg (by omega)]
    rw [this]
set_option maxRecDepth 10000 in
theorem rnew_ok : conRNew.ok KK Try.prog 12 := by
  refine Con.of_vc ([]) ([]) TT_ok follows Try.func12 ?_ G19_ok (@toVC _ _ rnew_vc ?_)
  · kernel_rfl
  · kernel_rfl
noncomputable def G20 : List (FuncId × Con) := (12, conRNew) :: G19
theorem G20_ok : GOK KK Try.prog G20 := GOK.cons (Callable.of Try.func12 (by kernel_rfl) (by kernel_rfl)) rnew_ok G19_ok

set_option maxRecDepth 10000 in
theorem ris_vc :
  ∀ x0 : (List (Bool × (Int × Int)) × Int),
  ∀ x1 : Int,
  True →
  ((litCmp BinOp.geq x1 (0 : Int) = true) →
   ((litCmp BinOp.lss x1 (↑(List.length (Prod.fst x0)) : Int) = true) →
    (((0 : Int) ≤ x1) ∧
     (x1 < (↑(List.length (Prod.fst x0)) : Int))) ∧
    ((True) ∧
     ((Prod.fst (ix (Prod.fst x0) x1) = isR x0 x1) ∧
      (True)))) ∧
   ((litCmp BinOp.lss x1 (↑(List.length (Prod.fst x0)) : Int) = false) →
    (True) ∧
    ((false = isR x0 x1) ∧
     (True)))) ∧
  ((litCmp BinOp.geq x1 (0 : Int) = false) →
   (True) ∧
   ((false = isR x0 x1) ∧
    (True))) := by
  intro w k _
  simp only [gtrT, gtrF, lssT, lssF, leqT, leqF, geqT, geqF, eqlT, eqlF, neqT, neqF, true_and, and_true, true_implies, implies_true, Bool.not_eq_true', Bool.not_eq_false', bne_iff_ne, ne_eq, not_true_eq_false, not_false_eq_true, Int.toNat_natCast, same_self, reduceCtorEq, false_implies, List.nil_append, isR]
  refine ⟨fun h => ⟨fun h1 => ⟨⟨h, h1⟩, by simp [h, h1]⟩, fun h1 => ?_⟩, fun h => ?_⟩
  · have : ¬ k < (w.1.length : Int) := by omega
    simp [this]
  · have : ¬ 0 ≤ k := by omega
    simp [this]
set_option maxRecDepth 10000 in
theorem ris_ok : conRIs.ok KK Try.prog 22 := by
  refine Con.of_vc ([]) ([]) TT_ok follows Try.func22 ?_ G20_ok (@toVC _ _ ris_vc ?_)
  · kernel_rfl
  · kernel_rfl
noncomputable def G21 : List (FuncId × Con) := (22, conRIs) :: G20
theorem G21_ok : GOK KK Try.prog G21 := GOK.cons (Callable.of Try.func22 (by kernel_rfl) (by kernel_rfl)) ris_ok G20_ok

set_option maxRecDepth 10000 in
theorem rwith_vc :
  ∀ x0 : (List (Bool × (Int × Int)) × Int),
  ∀ x1 : Int,
  ∀ x2 : (Bool × (Int × Int)),
  (((0 : Int) ≤ x1) ∧
    ((x1 < (↑(List.length (Prod.fst x0)) : Int)) ∧
     (List.length (Prod.fst x0) ≤ (4096 : Nat)))) →
  (((0 : Int) ≤ (↑(List.length (Prod.fst x0)) : Int)) ∧
   ((↑(List.length (Prod.fst x0)) : Int) * (24 : Int) ≤ (140737488355328 : Int))) ∧
  (∀ x3 : List (Bool × Int × Int),
   (x3 = [] ++ Prod.fst x0) →
   (((0 : Int) ≤ x1) ∧
    (x1 < (↑(List.length (Prod.fst x0)) : Int))) ∧
   (∀ x4 : List (Bool × Int × Int),
    (x4 = List.set x3 (Int.toNat x1) x2) →
    (True) ∧
    (((x4, Prod.snd x0) = withR x0 x1 x2) ∧
     (True)))) := by
  intro w k m ⟨h0, h1, h2⟩
  simp only [gtrT, gtrF, lssT, lssF, leqT, leqF, geqT, geqF, eqlT, eqlF, neqT, neqF, true_and, and_true, true_implies, implies_true, Bool.not_eq_true', Bool.not_eq_false', bne_iff_ne, ne_eq, not_true_eq_false, not_false_eq_true, Int.toNat_natCast, same_self, reduceCtorEq, false_implies, List.nil_append]
  refine ⟨by omega, ?_⟩
  rintro _ rfl
  refine ⟨⟨h0, h1⟩, ?_⟩
  rintro _ rfl
  simp [withR]
set_option maxRecDepth 10000 in
theorem rwith_ok : conRWith.ok KK Try.prog 29 := by
  refine Con.of_vc ([]) ([]) TT_ok follows Try.func29 ?_ G21_ok (@toVC _ _ rwith_vc ?_)
  · kernel_rfl
  · kernel_rfl
noncomputable def G22 : List (FuncId × Con) := (29, conRWith) :: G21
theorem G22_ok : GOK KK Try.prog G22 := GOK.cons (Callable.of Try.func29 (by kernel_rfl) (by kernel_rfl)) rwith_ok G21_ok

set_option maxRecDepth 10000 in
theorem rset_vc :
  ∀ x0 : (List (Bool × (Int × Int)) × Int),
  ∀ x1 : Int,
  ∀ x2 : Int,
  ∀ x3 : Int,
  (List.length (Prod.fst x0) ≤ (4096 : Nat)) →
  ((litCmp BinOp.lss x1 (0 : Int) = true) →
   ∀ x4 : (List (Bool × (Int × Int)) × Int),
   (x4 = x0) →
   (True) ∧
   ((x4 = Prod.fst (setR x0 x1 x2 x3)) ∧
    ((false = Prod.snd (setR x0 x1 x2 x3)) ∧
     (True)))) ∧
  ((litCmp BinOp.lss x1 (0 : Int) = false) →
   ((litCmp BinOp.geq x1 (↑(List.length (Prod.fst x0)) : Int) = true) →
    ∀ x5 : (List (Bool × (Int × Int)) × Int),
    (x5 = x0) →
    (True) ∧
    ((x5 = Prod.fst (setR x0 x1 x2 x3)) ∧
     ((false = Prod.snd (setR x0 x1 x2 x3)) ∧
      (True)))) ∧
   ((litCmp BinOp.geq x1 (↑(List.length (Prod.fst x0)) : Int) = false) →
    (((0 : Int) ≤ x1) ∧
     (x1 < (↑(List.length (Prod.fst x0)) : Int))) ∧
    (((Prod.fst (ix (Prod.fst x0) x1) = true) →
      ∀ x6 : (List (Bool × (Int × Int)) × Int),
      (x6 = x0) →
      (True) ∧
      ((x6 = Prod.fst (setR x0 x1 x2 x3)) ∧
       ((false = Prod.snd (setR x0 x1 x2 x3)) ∧
        (True)))) ∧
     ((Prod.fst (ix (Prod.fst x0) x1) = false) →
      (((0 : Int) ≤ x1) ∧
       ((x1 < (↑(List.length (Prod.fst x0)) : Int)) ∧
        (List.length (Prod.fst x0) ≤ (4096 : Nat)))) ∧
      (True →
       ∀ x7 : (List (Bool × (Int × Int)) × Int),
       (x7 = withR x0 x1 (true, x2, x3)) →
       (True) ∧
       ((x7 = Prod.fst (setR x0 x1 x2 x3)) ∧
        ((true = Prod.snd (setR x0 x1 x2 x3)) ∧
         (True)))))))) := by
  intro w k a t h
  simp only [gtrT, gtrF, lssT, lssF, leqT, leqF, geqT, geqF, eqlT, eqlF, neqT, neqF, true_and, and_true, true_implies, implies_true, Bool.not_eq_true', Bool.not_eq_false', bne_iff_ne, ne_eq, not_true_eq_false, not_false_eq_true, Int.toNat_natCast, same_self, reduceCtorEq, false_implies, List.nil_append, setR]
  refine ⟨fun h1 => ?_, fun h1 => ⟨fun h2 => ?_, fun h2 => ⟨⟨h1, h2⟩, fun h3 => ?_, fun h3 => ⟨⟨h1, h2, h⟩, ?_⟩⟩⟩⟩
  · rintro _ rfl; rw [if_pos (.inl h1)]; simp
  · rintro _ rfl; rw [if_pos (.inr (.inl h2))]; simp
  · rintro _ rfl; rw [if_pos (.inr (.inr h3))]; simp
  · rintro _ rfl
    rw [if_neg (by rintro (c | c | c) <;> first | omega | (rw [h3] at c; cases c))]
    simp
set_option maxRecDepth 10000 in
theorem rset_ok : conRSet.ok KK Try.prog 14 := by
  refine Con.of_vc ([]) ([]) TT_ok follows Try.func14 ?_ G22_ok (@toVC _ _ rset_vc ?_)
  · kernel_rfl
  · kernel_rfl
noncomputable def G23 : List (FuncId × Con) := (14, conRSet) :: G22
theorem G23_ok : GOK KK Try.prog G23 := GOK.cons (Callable.of Try.func14 (by kernel_rfl) (by kernel_rfl)) rset_ok G22_ok

set_option maxRecDepth 10000 in
theorem runset_vc :
  ∀ x0 : (List (Bool × (Int × Int)) × Int),
  ∀ x1 : Int,
  (List.length (Prod.fst x0) ≤ (4096 : Nat)) →
  (True) ∧
  (True →
   (((!isR x0 x1) = true) →
    ∀ x2 : (List (Bool × (Int × Int)) × Int),
    (x2 = x0) →
    (True) ∧
    ((x2 = Prod.fst (unsetR x0 x1)) ∧
     ((false = Prod.snd (unsetR x0 x1)) ∧
      (True)))) ∧
   (((!isR x0 x1) = false) →
    (((0 : Int) ≤ x1) ∧
     ((x1 < (↑(List.length (Prod.fst x0)) : Int)) ∧
      (List.length (Prod.fst x0) ≤ (4096 : Nat)))) ∧
    (True →
     ∀ x3 : (List (Bool × (Int × Int)) × Int),
     (x3 = withR x0 x1 (false, (0 : Int), (0 : Int))) →
     (True) ∧
     ((x3 = Prod.fst (unsetR x0 x1)) ∧
      ((true = Prod.snd (unsetR x0 x1)) ∧
       (True)))))) := by
  intro w k h
  simp only [gtrT, gtrF, lssT, lssF, leqT, leqF, geqT, geqF, eqlT, eqlF, neqT, neqF, true_and, and_true, true_implies, implies_true, Bool.not_eq_true', Bool.not_eq_false', bne_iff_ne, ne_eq, not_true_eq_false, not_false_eq_true, Int.toNat_natCast, same_self, reduceCtorEq, false_implies, List.nil_append, unsetR]
  refine ⟨fun h1 => ?_, fun h1 => ⟨?_, ?_⟩⟩
  · rintro _ rfl; rw [h1]; simp
  · simp only [isR, Bool.and_eq_true, decide_eq_true_eq] at h1
    exact ⟨h1.1, h1.2.1, h⟩
  · rintro _ rfl; rw [h1]; simp
set_option maxRecDepth 10000 in
theorem runset_ok : conRUnset.ok KK Try.prog 16 := by
  refine Con.of_vc ([]) ([]) TT_ok follows Try.func16 ?_ G23_ok (@toVC _ _ runset_vc ?_)
  · kernel_rfl
  · kernel_rfl
noncomputable def G24 : List (FuncId × Con) := (16, conRUnset) :: G23
theorem G24_ok : GOK KK Try.prog G24 := GOK.cons (Callable.of Try.func16 (by kernel_rfl) (by kernel_rfl)) runset_ok G23_ok
end Go.Proofs.Ytlkmdighjgpdlaa
/- Small functions of the law of wheels and its documents: the contracts. -/
namespace Go.Proofs.Ytlkmdighjgpdlaa
open Go Go.Fx
abbrev tpOp : Tp := .p (.i .i64) (.p (.i .i64) (.p (.i .u64) (.p (.i .u64) .bo)))
abbrev Opp := Int × Int × Int × Int × Bool
def whenL (o : Opp) (now : Int) : Int := if o.2.2.2.2 then IntKind.wrap .u64 (now + o.2.2.1) else o.2.2.1
def conWhen : Con := fnC [.d tpOp, .d (.i .u64)] (fun (o : Opp) (now : Int) => u64 (whenL o now))
noncomputable def conSame3 : Con := fnP [.d (.sl (.i .i64)), .d (.sl (.i .i64))] (fun (a b : List Int) => a.length ≤ 1000000) (fun (a b : List Int) => bb (same a b))
theorem take_ix {l : List Int} {k : Int} (h0 : 0 ≤ k) (h1 : k < l.length) : l.take (k + 1).toNat = l.take k.toNat ++ [ix l k] := by
  obtain ⟨m, rfl⟩ := Int.eq_ofNat_of_zero_le h0
  have hm : m < l.length := by omega
  rw [show ((m : Int) + 1).toNat = m + 1 from by omega, Int.toNat_natCast, List.take_add_one, List.getElem?_eq_getElem hm]
  unfold ix
  rw [List.getD_eq_getElem?_getD, Int.toNat_natCast, List.getElem?_eq_getElem hm]
  rfl
end Go.Proofs.Ytlkmdighjgpdlaa
/- Small functions of the law of wheels and its documents. -/
namespace Go.Proofs.Ytlkmdighjgpdlaa
open Go Go.Fx

set_option maxRecDepth 10000 in
theorem rfirst_vc :
  ∀ x0 : (List (Bool × (Int × Int)) × Int),
  (List.length (Prod.fst x0) ≤ (4096 : Nat)) →
  ∃ x1 : Int → Int → Bool → Prop,
  ∃ x2 : Int → Int → Bool → Nat,
  (x1 (0 : Int) (0 : Int) false) ∧
  (∀ x3 : Int,
   ∀ x4 : Int,
   ∀ x5 : Bool,
   (x1 x3 x4 x5) →
   ((litCmp BinOp.lss x3 (↑(List.length (Prod.fst x0)) : Int) = true) →
    (((0 : Int) ≤ x3) ∧
     (x3 < (↑(List.length (Prod.fst x0)) : Int))) ∧
    (((Prod.fst (ix (Prod.fst x0) x3) = true) →
      (((!x5) = true) →
       (((0 : Int) ≤ x3) ∧
        (x3 < (↑(List.length (Prod.fst x0)) : Int))) ∧
       (∀ x6 : Int,
        (x6 = Prod.fst (Prod.snd (ix (Prod.fst x0) x3))) →
        ∀ x7 : Int,
        (x7 = litArith BinOp.add IntKind.i64 x3 (1 : Int)) →
        (x0 = x0) ∧
        ((x1 x7 x6 true) ∧
         (x2 x7 x6 true < x2 x3 x4 x5)))) ∧
      (((!x5) = false) →
       (((0 : Int) ≤ x3) ∧
        (x3 < (↑(List.length (Prod.fst x0)) : Int))) ∧
       (∀ x8 : Int,
        (x8 = Prod.fst (Prod.snd (ix (Prod.fst x0) x3))) →
        ((litCmp BinOp.lss x8 x4 = true) →
         (((0 : Int) ≤ x3) ∧
          (x3 < (↑(List.length (Prod.fst x0)) : Int))) ∧
         (∀ x9 : Int,
          (x9 = Prod.fst (Prod.snd (ix (Prod.fst x0) x3))) →
          ∀ x10 : Int,
          (x10 = litArith BinOp.add IntKind.i64 x3 (1 : Int)) →
          (x0 = x0) ∧
          ((x1 x10 x9 true) ∧
           (x2 x10 x9 true < x2 x3 x4 x5)))) ∧
        ((litCmp BinOp.lss x8 x4 = false) →
         ∀ x11 : Int,
         (x11 = litArith BinOp.add IntKind.i64 x3 (1 : Int)) →
         (x0 = x0) ∧
         ((x1 x11 x4 x5) ∧
          (x2 x11 x4 x5 < x2 x3 x4 x5)))))) ∧
     ((Prod.fst (ix (Prod.fst x0) x3) = false) →
      ∀ x12 : Int,
      (x12 = litArith BinOp.add IntKind.i64 x3 (1 : Int)) →
      (x0 = x0) ∧
      ((x1 x12 x4 x5) ∧
       (x2 x12 x4 x5 < x2 x3 x4 x5))))) ∧
   ((litCmp BinOp.lss x3 (↑(List.length (Prod.fst x0)) : Int) = false) →
    (True) ∧
    ((x4 = Prod.fst (scan (fun (k : Int) => Prod.fst (ix (Prod.fst x0) k)) (fun (k : Int) => Prod.fst (Prod.snd (ix (Prod.fst x0) k))) (List.length (Prod.fst x0)))) ∧
     ((x5 = Prod.snd (scan (fun (k : Int) => Prod.fst (ix (Prod.fst x0) k)) (fun (k : Int) => Prod.fst (Prod.snd (ix (Prod.fst x0) k))) (List.length (Prod.fst x0)))) ∧
      (True))))) := by
  intro w h
  simp only [gtrT, gtrF, lssT, lssF, leqT, leqF, geqT, geqF, eqlT, eqlF, neqT, neqF, true_and, and_true, true_implies, implies_true, Bool.not_eq_true', Bool.not_eq_false', bne_iff_ne, ne_eq, not_true_eq_false, not_false_eq_true, Int.toNat_natCast, same_self, reduceCtorEq, false_implies, List.nil_append]
  refine ⟨fun t x b => 0 ≤ t ∧ t ≤ w.1.length ∧ (x, b) = scan (fun k => (ix w.1 k).1) (fun k => (ix w.1 k).2.1) t.toNat, fun t _ _ => ((w.1.length : Int) - t).toNat, ⟨Int.le_refl _, Int.natCast_nonneg _, rfl⟩, ?_⟩
  rintro t x b ⟨t0, t1, hx⟩
  obtain ⟨m, rfl⟩ := Int.eq_ofNat_of_zero_le t0
  simp only [Int.toNat_natCast] at hx
  have hadd : m < w.1.length → litArith .add .i64 (m : Int) 1 = (m : Int) + 1 := fun _ => addI_ (by omega) (by omega)
  have hn : ((m : Int) + 1).toNat = m + 1 := by omega
  have hx1 : x = (scan (fun k => (ix w.1 k).1) (fun k => (ix w.1 k).2.1) m).1 := congrArg Prod.fst hx
  have hx2 : b = (scan (fun k => (ix w.1 k).1) (fun k => (ix w.1 k).2.1) m).2 := congrArg Prod.snd hx
  refine ⟨fun hi => ⟨⟨t0, hi⟩, fun ho => ⟨fun hb => ⟨⟨t0, hi⟩, ?_⟩, fun hb => ⟨⟨t0, hi⟩, ?_⟩⟩, fun ho => ?_⟩, fun hi => ?_⟩
  · rintro _ rfl _ rfl
    rw [hadd (by omega)]
    refine ⟨⟨by omega, by omega, ?_⟩, meas hi⟩
    rw [hn]
    simp [scan, ho, ← hx2, hb]
  · rintro _ rfl
    refine ⟨fun hlt => ⟨⟨t0, hi⟩, ?_⟩, fun hlt => ?_⟩
    · rintro _ rfl _ rfl
      rw [hadd (by omega)]
      refine ⟨⟨by omega, by omega, ?_⟩, meas hi⟩
      rw [hn]
      simp [scan, ho, ← hx1, hlt]
    · rintro _ rfl
      rw [hadd (by omega)]
      refine ⟨⟨by omega, by omega, ?_⟩, meas hi⟩
      have : ¬ (ix w.1 (m : Int)).2.1 < x := by omega
      rw [hn, hx]
      simp [scan, ho, ← hx1, ← hx2, hb, this]
  · rintro _ rfl
    rw [hadd (by omega)]
    refine ⟨⟨by omega, by omega, ?_⟩, meas hi⟩
    rw [hn, hx]
    simp [scan, ho]
  · have : m = w.1.length := by omega
    subst this
    exact ⟨hx1, hx2⟩
set_option maxRecDepth 10000 in
theorem rfirst_ok : conRFirst.ok KK Try.prog 24 := by
  refine Con.of_vc ([(0, ⟨[], [(6, .d (.i .i64)), (4, .d (.i .u64)), (5, .d .bo)], [], [], []⟩)]) ([]) TT_ok follows Try.func24 ?_ G24_ok (@toVC _ _ rfirst_vc ?_)
  · kernel_rfl
  · kernel_rfl
noncomputable def G25 : List (FuncId × Con) := (24, conRFirst) :: G24
theorem G25_ok : GOK KK Try.prog G25 := GOK.cons (Callable.of Try.func24 (by kernel_rfl) (by kernel_rfl)) rfirst_ok G24_ok

set_option maxRecDepth 10000 in
theorem lwhen_vc :
  ∀ x0 : (Int × (Int × (Int × (Int × Bool)))),
  ∀ x1 : Int,
  True →
  ((Prod.snd (Prod.snd (Prod.snd (Prod.snd x0))) = true) →
   ∀ x2 : Int,
   (x2 = litArith BinOp.add IntKind.u64 x1 (Prod.fst (Prod.snd (Prod.snd x0)))) →
   (True) ∧
   ((x2 = whenL x0 x1) ∧
    (True))) ∧
  ((Prod.snd (Prod.snd (Prod.snd (Prod.snd x0))) = false) →
   (True) ∧
   ((Prod.fst (Prod.snd (Prod.snd x0)) = whenL x0 x1) ∧
    (True))) := by
  intro o now _
  simp only [gtrT, gtrF, lssT, lssF, leqT, leqF, geqT, geqF, eqlT, eqlF, neqT, neqF, true_and, and_true, true_implies, implies_true, Bool.not_eq_true', Bool.not_eq_false', bne_iff_ne, ne_eq, not_true_eq_false, not_false_eq_true, Int.toNat_natCast, same_self, reduceCtorEq, false_implies, List.nil_append, whenL]
  refine ⟨fun h => ?_, fun h => ?_⟩
  · rintro _ rfl
    rw [if_pos h]; rfl
  · rw [if_neg (by rw [h]; simp)]
set_option maxRecDepth 10000 in
theorem lwhen_ok : conWhen.ok KK Try.prog 13 := by
  refine Con.of_vc ([]) ([]) TT_ok follows Try.func13 ?_ G25_ok (@toVC _ _ lwhen_vc ?_)
  · kernel_rfl
  · kernel_rfl
noncomputable def G26 : List (FuncId × Con) := (13, conWhen) :: G25
theorem G26_ok : GOK KK Try.prog G26 := GOK.cons (Callable.of Try.func13 (by kernel_rfl) (by kernel_rfl)) lwhen_ok G25_ok

set_option maxRecDepth 10000 in
theorem same3_vc :
  ∀ x0 : List Int,
  ∀ x1 : List Int,
  (List.length x0 ≤ (1000000 : Nat)) →
  ((litCmp BinOp.neq (↑(List.length x0) : Int) (↑(List.length x1) : Int) = true) →
   (True) ∧
   ((false = same x0 x1) ∧
    (True))) ∧
  ((litCmp BinOp.neq (↑(List.length x0) : Int) (↑(List.length x1) : Int) = false) →
   ∃ x2 : Int → Prop,
   ∃ x3 : Int → Nat,
   (x2 (0 : Int)) ∧
   (∀ x4 : Int,
    (x2 x4) →
    ((litCmp BinOp.lss x4 (↑(List.length x0) : Int) = true) →
     (((0 : Int) ≤ x4) ∧
      (x4 < (↑(List.length x1) : Int))) ∧
     ((((0 : Int) ≤ x4) ∧
       (x4 < (↑(List.length x0) : Int))) ∧
      (((litCmp BinOp.neq (ix x0 x4) (ix x1 x4) = true) →
        (True) ∧
        ((false = same x0 x1) ∧
         (True))) ∧
       ((litCmp BinOp.neq (ix x0 x4) (ix x1 x4) = false) →
        ∀ x5 : Int,
        (x5 = litArith BinOp.add IntKind.i64 x4 (1 : Int)) →
        (x0 = x0) ∧
        (((↑(List.length x0) : Int) = (↑(List.length x0) : Int)) ∧
         ((x1 = x1) ∧
          (((↑(List.length x1) : Int) = (↑(List.length x1) : Int)) ∧
           ((x2 x5) ∧
            (x3 x5 < x3 x4))))))))) ∧
    ((litCmp BinOp.lss x4 (↑(List.length x0) : Int) = false) →
     (True) ∧
     ((true = same x0 x1) ∧
      (True))))) := by
  intro a b hbig
  have no : a ≠ b → false = same a b := fun h => by
    cases hs : same a b with
    | false => rfl
    | true => exact absurd (same_iff.1 hs) h
  simp only [gtrT, gtrF, lssT, lssF, leqT, leqF, geqT, geqF, eqlT, eqlF, neqT, neqF, true_and, and_true, true_implies, implies_true, Bool.not_eq_true', Bool.not_eq_false', bne_iff_ne, ne_eq, not_true_eq_false, not_false_eq_true, Int.toNat_natCast, same_self, reduceCtorEq, false_implies, List.nil_append]
  refine ⟨fun h => no (fun e => h (by rw [e])), fun h => ?_⟩
  have hlen : a.length = b.length := by omega
  refine ⟨fun k => 0 ≤ k ∧ k ≤ a.length ∧ a.take k.toNat = b.take k.toNat, fun k => ((a.length : Int) - k).toNat, ⟨by omega, by omega, by simp⟩, ?_⟩
  rintro k ⟨h0, h1, h2⟩
  refine ⟨fun hk => ?_, fun hk => ?_⟩
  · refine ⟨⟨h0, by omega⟩, ⟨h0, hk⟩, fun hs => no (fun e => ?_), fun hs => ?_⟩
    · subst e; exact hs rfl
    · rintro _ rfl
      rw [addI_ (by omega) (by omega)]
      exact ⟨⟨by omega, by omega, by rw [take_ix h0 hk, take_ix h0 (by omega), h2, hs]⟩, meas hk⟩
  · have : k = a.length := by omega
    subst this
    rw [Int.toNat_natCast, List.take_length, List.take_of_length_le (by omega)] at h2
    subst h2
    exact (same_self a).symm
set_option maxRecDepth 10000 in
theorem same3_ok : conSame3.ok KK Try.prog 19 := by
  refine Con.of_vc ([(0, ⟨[], [(5, .d (.i .i64))], [], [], []⟩)]) ([]) TT_ok follows Try.func19 ?_ G26_ok (@toVC _ _ same3_vc ?_)
  · kernel_rfl
  · kernel_rfl
noncomputable def G27 : List (FuncId × Con) := (19, conSame3) :: G26
theorem G27_ok : GOK KK Try.prog G27 := GOK.cons (Callable.of Try.func19 (by kernel_rfl) (by kernel_rfl)) same3_ok G26_ok
end Go.Proofs.Ytlkmdighjgpdlaa
/- Orders: the contracts of cmp's functions and of the document's. -/
namespace Go.Proofs.Ytlkmdighjgpdlaa
open Go Go.Fx
def cmpI (x y : Int) : Int := if x < y then -1 else if y < x then 1 else 0
def conNaNU : Con := fnC [.d (.i .u64)] (fun (x : Int) => bb false)
def conNaNI : Con := fnC [.d (.i .i64)] (fun (x : Int) => bb false)
def conCmpU : Con := fnC [.d (.i .u64), .d (.i .u64)] (fun (x y : Int) => i64 (cmpI x y))
def conCmpI : Con := fnC [.d (.i .i64), .d (.i .i64)] (fun (x y : Int) => i64 (cmpI x y))
def orL : List Int → Int
  | [] => 0
  | x :: l => if x = 0 then orL l else x
def conOr : Con := fnP [.d (.sl (.i .i64))] (fun (l : List Int) => l.length ≤ 1000000) (fun (l : List Int) => i64 (orL l))
def aheadR (w : Wh) (a b : Int) : Bool :=
  if (ix w.1 a).2.1 = (ix w.1 b).2.1 then (if (ix w.1 a).2.2 = (ix w.1 b).2.2 then decide (a < b) else decide ((ix w.1 a).2.2 < (ix w.1 b).2.2)) else decide ((ix w.1 a).2.1 < (ix w.1 b).2.1)
def conAhead : Con := fnP [.d tpWh, .d (.i .i64), .d (.i .i64)] (fun (w : Wh) (a b : Int) => 0 ≤ a ∧ a < w.1.length ∧ 0 ≤ b ∧ b < w.1.length) (fun (w : Wh) (a b : Int) => bb (aheadR w a b))
theorem orL_zero : ∀ {l : List Int}, (∀ x, x ∈ l → x = 0) → orL l = 0
  | [], _ => rfl
  | x :: l, h => by
    simp only [orL]
    rw [if_pos (h x (by simp))]
    exact orL_zero (fun y hy => h y (by simp [hy]))
theorem orL_app : ∀ {a b : List Int}, (∀ x, x ∈ a → x = 0) → orL (a ++ b) = orL b
  | [], b, _ => rfl
  | x :: a, b, h => by
    simp only [List.cons_append, orL]
    rw [if_pos (h x (by simp))]
    exact orL_app (fun y hy => h y (by simp [hy]))
end Go.Proofs.Ytlkmdighjgpdlaa
/- Orders. -/
namespace Go.Proofs.Ytlkmdighjgpdlaa
open Go Go.Fx

set_option maxRecDepth 10000 in
theorem nanu_vc :
  ∀ x0 : Int,
  True →
  (True) ∧
  ((litCmp BinOp.neq x0 x0 = false) ∧
   (True)) := by
  intro x _
  simp [litCmp]
set_option maxRecDepth 10000 in
theorem nanu_ok : conNaNU.ok KK Try.prog 49 := by
  refine Con.of_vc ([]) ([]) TT_ok follows Try.func49 ?_ G27_ok (@toVC _ _ nanu_vc ?_)
  · kernel_rfl
  · kernel_rfl
noncomputable def G28 : List (FuncId × Con) := (49, conNaNU) :: G27
theorem G28_ok : GOK KK Try.prog G28 := GOK.cons (Callable.of Try.func49 (by kernel_rfl) (by kernel_rfl)) nanu_ok G27_ok

set_option maxRecDepth 10000 in
theorem nani_vc :
  ∀ x0 : Int,
  True →
  (True) ∧
  ((litCmp BinOp.neq x0 x0 = false) ∧
   (True)) := by
  intro x _
  simp [litCmp]
set_option maxRecDepth 10000 in
theorem nani_ok : conNaNI.ok KK Try.prog 50 := by
  refine Con.of_vc ([]) ([]) TT_ok follows Try.func50 ?_ G28_ok (@toVC _ _ nani_vc ?_)
  · kernel_rfl
  · kernel_rfl
noncomputable def G29 : List (FuncId × Con) := (50, conNaNI) :: G28
theorem G29_ok : GOK KK Try.prog G29 := GOK.cons (Callable.of Try.func50 (by kernel_rfl) (by kernel_rfl)) nani_ok G28_ok

set_option maxRecDepth 10000 in
theorem cmpu_vc :
  ∀ x0 : Int,
  ∀ x1 : Int,
  True →
  (True) ∧
  (True →
   (True) ∧
   (True →
    ((false = true) →
     ((false = true) →
      (True) ∧
      (((0 : Int) = cmpI x0 x1) ∧
       (True))) ∧
     ((false = false) →
      (True) ∧
      (((-1 : Int) = cmpI x0 x1) ∧
       (True)))) ∧
    ((false = false) →
     ((false = true) →
      (True) ∧
      (((1 : Int) = cmpI x0 x1) ∧
       (True))) ∧
     ((false = false) →
      ((litCmp BinOp.lss x0 x1 = true) →
       (True) ∧
       (((-1 : Int) = cmpI x0 x1) ∧
        (True))) ∧
      ((litCmp BinOp.lss x0 x1 = false) →
       ((litCmp BinOp.gtr x0 x1 = true) →
        (True) ∧
        (((1 : Int) = cmpI x0 x1) ∧
         (True))) ∧
       ((litCmp BinOp.gtr x0 x1 = false) →
        (True) ∧
        (((0 : Int) = cmpI x0 x1) ∧
         (True)))))))) := by
  intro x y _
  simp only [gtrT, gtrF, lssT, lssF, leqT, leqF, geqT, geqF, eqlT, eqlF, neqT, neqF, true_and, and_true, true_implies, implies_true, Bool.not_eq_true', Bool.not_eq_false', bne_iff_ne, ne_eq, not_true_eq_false, not_false_eq_true, Int.toNat_natCast, same_self, reduceCtorEq, false_implies, List.nil_append, cmpI]
  refine ⟨fun h => ?_, fun h => ⟨fun h1 => ?_, fun h1 => ?_⟩⟩
  · rw [if_pos h]
  · rw [if_neg (by omega), if_pos h1]
  · rw [if_neg (by omega), if_neg (by omega)]
set_option maxRecDepth 10000 in
theorem cmpu_ok : conCmpU.ok KK Try.prog 41 := by
  refine Con.of_vc ([]) ([]) TT_ok follows Try.func41 ?_ G29_ok (@toVC _ _ cmpu_vc ?_)
  · kernel_rfl
  · kernel_rfl
noncomputable def G30 : List (FuncId × Con) := (41, conCmpU) :: G29
theorem G30_ok : GOK KK Try.prog G30 := GOK.cons (Callable.of Try.func41 (by kernel_rfl) (by kernel_rfl)) cmpu_ok G29_ok

set_option maxRecDepth 10000 in
theorem cmpi_vc :
  ∀ x0 : Int,
  ∀ x1 : Int,
  True →
  (True) ∧
  (True →
   (True) ∧
   (True →
    ((false = true) →
     ((false = true) →
      (True) ∧
      (((0 : Int) = cmpI x0 x1) ∧
       (True))) ∧
     ((false = false) →
      (True) ∧
      (((-1 : Int) = cmpI x0 x1) ∧
       (True)))) ∧
    ((false = false) →
     ((false = true) →
      (True) ∧
      (((1 : Int) = cmpI x0 x1) ∧
       (True))) ∧
     ((false = false) →
      ((litCmp BinOp.lss x0 x1 = true) →
       (True) ∧
       (((-1 : Int) = cmpI x0 x1) ∧
        (True))) ∧
      ((litCmp BinOp.lss x0 x1 = false) →
       ((litCmp BinOp.gtr x0 x1 = true) →
        (True) ∧
        (((1 : Int) = cmpI x0 x1) ∧
         (True))) ∧
       ((litCmp BinOp.gtr x0 x1 = false) →
        (True) ∧
        (((0 : Int) = cmpI x0 x1) ∧
         (True)))))))) := by
  intro x y _
  simp only [gtrT, gtrF, lssT, lssF, leqT, leqF, geqT, geqF, eqlT, eqlF, neqT, neqF, true_and, and_true, true_implies, implies_true, Bool.not_eq_true', Bool.not_eq_false', bne_iff_ne, ne_eq, not_true_eq_false, not_false_eq_true, Int.toNat_natCast, same_self, reduceCtorEq, false_implies, List.nil_append, cmpI]
  refine ⟨fun h => ?_, fun h => ⟨fun h1 => ?_, fun h1 => ?_⟩⟩
  · rw [if_pos h]
  · rw [if_neg (by omega), if_pos h1]
  · rw [if_neg (by omega), if_neg (by omega)]
set_option maxRecDepth 10000 in
theorem cmpi_ok : conCmpI.ok KK Try.prog 42 := by
  refine Con.of_vc ([]) ([]) TT_ok follows Try.func42 ?_ G30_ok (@toVC _ _ cmpi_vc ?_)
  · kernel_rfl
  · kernel_rfl
noncomputable def G31 : List (FuncId × Con) := (42, conCmpI) :: G30
theorem G31_ok : GOK KK Try.prog G31 := GOK.cons (Callable.of Try.func42 (by kernel_rfl) (by kernel_rfl)) cmpi_ok G30_ok

set_option maxRecDepth 10000 in
theorem rahead_vc :
  ∀ x0 : (List (Bool × (Int × Int)) × Int),
  ∀ x1 : Int,
  ∀ x2 : Int,
  (((0 : Int) ≤ x1) ∧
    ((x1 < (↑(List.length (Prod.fst x0)) : Int)) ∧
     (((0 : Int) ≤ x2) ∧
      (x2 < (↑(List.length (Prod.fst x0)) : Int))))) →
  (((0 : Int) ≤ x1) ∧
   (x1 < (↑(List.length (Prod.fst x0)) : Int))) ∧
  (∀ x3 : (Bool × (Int × Int)),
   (x3 = ix (Prod.fst x0) x1) →
   ∀ x4 : (Bool × (Int × Int)),
   (x4 = x3) →
   (((0 : Int) ≤ x2) ∧
    (x2 < (↑(List.length (Prod.fst x0)) : Int))) ∧
   (∀ x5 : (Bool × (Int × Int)),
    (x5 = ix (Prod.fst x0) x2) →
    ∀ x6 : (Bool × (Int × Int)),
    (x6 = x5) →
    ((litCmp BinOp.neq (Prod.fst (Prod.snd x4)) (Prod.fst (Prod.snd x6)) = true) →
     (True) ∧
     ((litCmp BinOp.lss (Prod.fst (Prod.snd x4)) (Prod.fst (Prod.snd x6)) = aheadR x0 x1 x2) ∧
      (True))) ∧
    ((litCmp BinOp.neq (Prod.fst (Prod.snd x4)) (Prod.fst (Prod.snd x6)) = false) →
     ((litCmp BinOp.neq (Prod.snd (Prod.snd x4)) (Prod.snd (Prod.snd x6)) = true) →
      (True) ∧
      ((litCmp BinOp.lss (Prod.snd (Prod.snd x4)) (Prod.snd (Prod.snd x6)) = aheadR x0 x1 x2) ∧
       (True))) ∧
     ((litCmp BinOp.neq (Prod.snd (Prod.snd x4)) (Prod.snd (Prod.snd x6)) = false) →
      (True) ∧
      ((litCmp BinOp.lss x1 x2 = aheadR x0 x1 x2) ∧
       (True)))))) := by
  intro w a b ⟨a0, a1, b0, b1⟩
  simp only [gtrT, gtrF, lssT, lssF, leqT, leqF, geqT, geqF, eqlT, eqlF, neqT, neqF, true_and, and_true, true_implies, implies_true, Bool.not_eq_true', Bool.not_eq_false', bne_iff_ne, ne_eq, not_true_eq_false, not_false_eq_true, Int.toNat_natCast, same_self, reduceCtorEq, false_implies, List.nil_append, aheadR]
  refine ⟨⟨a0, a1⟩, ?_⟩
  rintro _ rfl _ rfl
  refine ⟨⟨b0, b1⟩, ?_⟩
  rintro _ rfl _ rfl
  refine ⟨fun h => ?_, fun h => ⟨fun h1 => ?_, fun h1 => ?_⟩⟩
  · rw [if_neg h]; rfl
  · rw [if_pos h, if_neg h1]; rfl
  · rw [if_pos h, if_pos h1]; rfl
set_option maxRecDepth 10000 in
theorem rahead_ok : conAhead.ok KK Try.prog 33 := by
  refine Con.of_vc ([]) ([]) TT_ok follows Try.func33 ?_ G31_ok (@toVC _ _ rahead_vc ?_)
  · kernel_rfl
  · kernel_rfl
noncomputable def G32 : List (FuncId × Con) := (33, conAhead) :: G31
theorem G32_ok : GOK KK Try.prog G32 := GOK.cons (Callable.of Try.func33 (by kernel_rfl) (by kernel_rfl)) rahead_ok G31_ok

set_option maxRecDepth 10000 in
theorem cor_vc :
  ∀ x0 : List Int,
  (List.length x0 ≤ (1000000 : Nat)) →
  ∃ x1 : Int → Prop,
  ∃ x2 : Int → Nat,
  (x1 (0 : Int)) ∧
  (∀ x3 : Int,
   (x1 x3) →
   ((litCmp BinOp.lss x3 (↑(List.length x0) : Int) = true) →
    (((0 : Int) ≤ x3) ∧
     (x3 < (↑(List.length x0) : Int))) ∧
    (∀ x4 : Int,
     (x4 = ix x0 x3) →
     ((litCmp BinOp.neq x4 (0 : Int) = true) →
      (True) ∧
      ((x4 = orL x0) ∧
       (True))) ∧
     ((litCmp BinOp.neq x4 (0 : Int) = false) →
      ∀ x5 : Int,
      (x5 = litArith BinOp.add IntKind.i64 x3 (1 : Int)) →
      (x0 = x0) ∧
      (((↑(List.length x0) : Int) = (↑(List.length x0) : Int)) ∧
       (((↑(List.length x0) : Int) = (↑(List.length x0) : Int)) ∧
        ((x1 x5) ∧
         (x2 x5 < x2 x3))))))) ∧
   ((litCmp BinOp.lss x3 (↑(List.length x0) : Int) = false) →
    (True) ∧
    (((0 : Int) = orL x0) ∧
     (True)))) := by
  intro l h
  simp only [gtrT, gtrF, lssT, lssF, leqT, leqF, geqT, geqF, eqlT, eqlF, neqT, neqF, true_and, and_true, true_implies, implies_true, Bool.not_eq_true', Bool.not_eq_false', bne_iff_ne, ne_eq, not_true_eq_false, not_false_eq_true, Int.toNat_natCast, same_self, reduceCtorEq, false_implies, List.nil_append]
  refine ⟨fun t => 0 ≤ t ∧ t ≤ l.length ∧ ∀ x, x ∈ l.take t.toNat → x = 0, fun t => ((l.length : Int) - t).toNat, ⟨Int.le_refl _, Int.natCast_nonneg _, fun x hx => (by cases hx)⟩, ?_⟩
  rintro t ⟨t0, t1, hz⟩
  refine ⟨fun hi => ⟨⟨t0, hi⟩, ?_⟩, fun hi => ?_⟩
  · rintro _ rfl
    have ht := take_ix t0 hi
    refine ⟨fun hx => ?_, fun hx => ?_⟩
    · have e : l = l.take t.toNat ++ (ix l t :: l.drop (t + 1).toNat) := by
        have := List.take_append_drop (t + 1).toNat l
        rw [ht, List.append_assoc] at this
        exact this.symm
      have e2 := orL_app (b := ix l t :: l.drop (t + 1).toNat) hz
      rw [← e] at e2
      rw [e2]
      simp [orL, hx]
    · rintro _ rfl
      rw [addI_ (by omega) (by omega)]
      refine ⟨⟨by omega, by omega, ?_⟩, meas hi⟩
      rw [ht]
      intro x hm
      rcases List.mem_append.1 hm with c | c
      · exact hz x c
      · simp at c; rw [c]; exact hx
  · have : t.toNat = l.length := by omega
    rw [this, List.take_length] at hz
    exact (orL_zero hz).symm
set_option maxRecDepth 10000 in
theorem cor_ok : conOr.ok KK Try.prog 40 := by
  refine Con.of_vc ([(0, ⟨[], [(8, .d (.i .i64))], [], [], []⟩)]) ([]) TT_ok follows Try.func40 ?_ G32_ok (@toVC _ _ cor_vc ?_)
  · kernel_rfl
  · kernel_rfl
noncomputable def G33 : List (FuncId × Con) := (40, conOr) :: G32
theorem G33_ok : GOK KK Try.prog G33 := GOK.cons (Callable.of Try.func40 (by kernel_rfl) (by kernel_rfl)) cor_ok G32_ok
end Go.Proofs.Ytlkmdighjgpdlaa
/- nightjarref07.Len: the contract stands in XIc. -/
namespace Go.Proofs.Ytlkmdighjgpdlaa
open Go Go.Fx
theorem lenR_step {l : List Mk} {m : Nat} (h : m < l.length) : lenR (l.take (m + 1)) = lenR (l.take m) + if (ix l (m : Int)).1 then 1 else 0 := by
  have hix : ix l (m : Int) = l[m] := by
    unfold ix
    rw [List.getD_eq_getElem?_getD, Int.toNat_natCast, List.getElem?_eq_getElem h, Option.getD_some]
  unfold lenR
  rw [List.take_add_one, List.getElem?_eq_getElem h, hix, Option.toList_some, List.filter_append, List.length_append]
  cases hb : (l[m]).1 <;> simp [List.filter, hb]
theorem lenR_le (l : List Mk) : 0 ≤ lenR l ∧ lenR l ≤ l.length := by
  unfold lenR
  have := List.length_filter_le (fun m : Mk => m.1) l
  omega
end Go.Proofs.Ytlkmdighjgpdlaa
/- nightjarref07.Len. -/
namespace Go.Proofs.Ytlkmdighjgpdlaa
open Go Go.Fx

set_option maxRecDepth 10000 in
theorem rlen_vc :
  ∀ x0 : (List (Bool × (Int × Int)) × Int),
  (List.length (Prod.fst x0) ≤ (4096 : Nat)) →
  ∃ x1 : Int → Int → Prop,
  ∃ x2 : Int → Int → Nat,
  (x1 (0 : Int) (0 : Int)) ∧
  (∀ x3 : Int,
   ∀ x4 : Int,
   (x1 x3 x4) →
   ((litCmp BinOp.lss x4 (↑(List.length (Prod.fst x0)) : Int) = true) →
    (((0 : Int) ≤ x4) ∧
     (x4 < (↑(List.length (Prod.fst x0)) : Int))) ∧
    (((Prod.fst (ix (Prod.fst x0) x4) = true) →
      ∀ x5 : Int,
      (x5 = litArith BinOp.add IntKind.i64 x3 (1 : Int)) →
      ∀ x6 : Int,
      (x6 = litArith BinOp.add IntKind.i64 x4 (1 : Int)) →
      (x0 = x0) ∧
      ((x1 x5 x6) ∧
       (x2 x5 x6 < x2 x3 x4))) ∧
     ((Prod.fst (ix (Prod.fst x0) x4) = false) →
      ∀ x7 : Int,
      (x7 = litArith BinOp.add IntKind.i64 x4 (1 : Int)) →
      (x0 = x0) ∧
      ((x1 x3 x7) ∧
       (x2 x3 x7 < x2 x3 x4))))) ∧
   ((litCmp BinOp.lss x4 (↑(List.length (Prod.fst x0)) : Int) = false) →
    (True) ∧
    ((x3 = lenR (Prod.fst x0)) ∧
     (True)))) := by
  intro w h
  simp only [gtrT, gtrF, lssT, lssF, leqT, leqF, geqT, geqF, eqlT, eqlF, neqT, neqF, true_and, and_true, true_implies, implies_true, Bool.not_eq_true', Bool.not_eq_false', bne_iff_ne, ne_eq, not_true_eq_false, not_false_eq_true, Int.toNat_natCast, same_self, reduceCtorEq, false_implies, List.nil_append]
  refine ⟨fun n k => 0 ≤ k ∧ k ≤ w.1.length ∧ n = lenR (w.1.take k.toNat), fun _ k => ((w.1.length : Int) - k).toNat, ⟨Int.le_refl _, Int.natCast_nonneg _, rfl⟩, ?_⟩
  rintro n k ⟨k0, k1, rfl⟩
  obtain ⟨m, rfl⟩ := Int.eq_ofNat_of_zero_le k0
  simp only [Int.toNat_natCast]
  have hb := lenR_le (w.1.take m)
  have hb2 : (w.1.take m).length ≤ m := by rw [List.length_take]; exact Nat.min_le_left _ _
  have hn : ((m : Int) + 1).toNat = m + 1 := by omega
  refine ⟨fun hi => ⟨⟨k0, hi⟩, fun ho => ?_, fun ho => ?_⟩, fun hi => ?_⟩
  · have hs := lenR_step (l := w.1) (m := m) (by omega)
    rw [ho] at hs
    rintro _ rfl _ rfl
    rw [addI_ (x := (m : Int)) (by omega) (by omega), addI_ (by omega) (by omega)]
    exact ⟨⟨by omega, by omega, by rw [hn, hs]; simp⟩, meas hi⟩
  · have hs := lenR_step (l := w.1) (m := m) (by omega)
    rw [ho] at hs
    rintro _ rfl
    rw [addI_ (x := (m : Int)) (by omega) (by omega)]
    exact ⟨⟨by omega, by omega, by rw [hn, hs]; simp⟩, meas hi⟩
  · have : m = w.1.length := by omega
    subst this
    simp
set_option maxRecDepth 10000 in
theorem rlen_ok : conRLen.ok KK Try.prog 27 := by
  refine Con.of_vc ([(0, ⟨[], [(3, .d (.i .i64)), (4, .d (.i .i64))], [], [], []⟩)]) ([]) TT_ok follows Try.func27 ?_ G33_ok (@toVC _ _ rlen_vc ?_)
  · kernel_rfl
  · kernel_rfl
noncomputable def G34 : List (FuncId × Con) := (27, conRLen) :: G33
theorem G34_ok : GOK KK Try.prog G34 := GOK.cons (Callable.of Try.func27 (by kernel_rfl) (by kernel_rfl)) rlen_ok G33_ok
end Go.Proofs.Ytlkmdighjgpdlaa
/- The document's going on to a time: the plain law, the contract. -/
namespace Go.Proofs.Ytlkmdighjgpdlaa
open Go Go.Fx
/-- By times, turns and numbers. -/
def ltM (M : Int → Int × Int) (a b : Int) : Prop := (M a).1 < (M b).1 ∨ (M a).1 = (M b).1 ∧ ((M a).2 < (M b).2 ∨ (M a).2 = (M b).2 ∧ a < b)
def cfM (M : Int → Int × Int) (a b : Int) : Int := orL [cmpI (M a).1 (M b).1, cmpI (M a).2 (M b).2, cmpI a b]
theorem cmpI_zero {a b : Int} : cmpI a b = 0 ↔ a = b := by unfold cmpI; split <;> (try split) <;> omega
theorem cmpI_neg {a b : Int} : cmpI a b < 0 ↔ a < b := by unfold cmpI; split <;> (try split) <;> omega
theorem cfM_lt {M : Int → Int × Int} {a b : Int} : cfM M a b < 0 ↔ ltM M a b := by
  unfold cfM ltM
  simp only [orL]
  by_cases h1 : (M a).1 = (M b).1
  · rw [if_pos (cmpI_zero.2 h1)]
    by_cases h2 : (M a).2 = (M b).2
    · rw [if_pos (cmpI_zero.2 h2)]
      by_cases h3 : a = b
      · rw [if_pos (cmpI_zero.2 h3)]; omega
      · rw [if_neg (fun e => h3 (cmpI_zero.1 e)), cmpI_neg]; omega
    · rw [if_neg (fun e => h2 (cmpI_zero.1 e)), cmpI_neg]; omega
  · rw [if_neg (fun e => h1 (cmpI_zero.1 e)), cmpI_neg]; omega
theorem cfM_not {M : Int → Int × Int} {a b : Int} : ¬ cfM M a b < 0 ↔ ¬ ltM M a b := not_congr cfM_lt
theorem ltM.irr {M : Int → Int × Int} {a : Int} : ¬ ltM M a a := by unfold ltM; omega
theorem ltM.trans {M : Int → Int × Int} {a b c : Int} : ltM M a b → ltM M b c → ltM M a c := by unfold ltM; omega
theorem ltM.tri {M : Int → Int × Int} {a b : Int} : ¬ ltM M a b → ¬ ltM M b a → a = b := by unfold ltM; omega
theorem ltM.asym {M : Int → Int × Int} {a b : Int} : ltM M a b → ¬ ltM M b a := by unfold ltM; omega
theorem cfM_parts (M : Int → Int × Int) (l : List Int) : Parts l (cfM M) :=
  ⟨fun x _ => cfM_not.2 ltM.irr, fun x _ y _ z _ h h' => cfM_lt.2 ((cfM_lt.1 h).trans (cfM_lt.1 h')), fun x _ y _ h h' => ltM.tri (cfM_not.1 h) (cfM_not.1 h')⟩
theorem sorted_eq {lt : Int → Int → Prop} (asym : ∀ a b, lt a b → ¬ lt b a) : ∀ {l l' : List Int}, l.Pairwise lt → l'.Pairwise lt → l.Perm l' → l = l'
  | [], l', _, _, h => (List.nil_perm.1 h).symm
  | a :: l, [], _, _, h => absurd (List.perm_nil.1 h) (by simp)
  | a :: l, b :: l', h1, h2, h => by
    rw [List.pairwise_cons] at h1 h2
    have e : a = b := by
      by_cases e : a = b
      · exact e
      · have ha : a ∈ b :: l' := h.subset (by simp)
        have hb : b ∈ a :: l := h.symm.subset (by simp)
        simp only [List.mem_cons, e, false_or] at ha
        simp only [List.mem_cons, Ne.symm e, false_or] at hb
        exact absurd (h1.1 b hb) (asym _ _ (h2.1 a ha))
    subst e
    rw [sorted_eq asym h1.2 h2.2 (List.Perm.cons_inv h)]
theorem srt_pair (M : Int → Int × Int) {l : List Int} (hn : l.Nodup) : (srt (cfM M) l).Pairwise (ltM M) := by
  have h1 : (srt (cfM M) l).Pairwise fun a b => (!decide (cfM M b a < 0)) = true := by
    unfold srt
    refine List.pairwise_mergeSort (le := fun x y => !decide (cfM M y x < 0)) ?_ ?_ l
    · intro a b c h h'
      simp only [Bool.not_eq_true', decide_eq_false_iff_not, cfM_lt] at h h' ⊢
      intro q
      by_cases hba : ltM M a b
      · exact h' (q.trans hba)
      · exact h' (ltM.tri hba h ▸ q)
    · intro a b
      simp only [Bool.or_eq_true, Bool.not_eq_true', decide_eq_false_iff_not, cfM_lt]
      by_cases q : ltM M b a
      · exact .inr q.asym
      · exact .inl q
  have h2 : (srt (cfM M) l).Nodup := (srt_perm _ _).nodup_iff.2 hn
  refine (List.Pairwise.and h1 h2).imp ?_
  rintro a b ⟨h, hne⟩
  simp only [Bool.not_eq_true', decide_eq_false_iff_not, cfM_lt] at h
  by_cases q : ltM M a b
  · exact q
  · exact absurd (ltM.tri q h) hne
theorem srt_eq {M : Int → Int × Int} {l l' : List Int} (hn : l.Nodup) (hp : l'.Perm l) (hs : l'.Pairwise (ltM M)) : l' = srt (cfM M) l :=
  sorted_eq (fun _ _ h => h.asym) hs (srt_pair M hn) (hp.trans (srt_perm _ _).symm)
/-- Put at its place. -/
theorem srt_put {M : Int → Int × Int} {l : List Int} {k : Int} {n : Nat} (hn : l.Nodup) (hk : k ∉ l) (h1 : ∀ x ∈ (srt (cfM M) l).drop n, ltM M k x) (h0 : ∀ x ∈ (srt (cfM M) l).take n, ltM M x k) :
    (srt (cfM M) l).take n ++ [k] ++ (srt (cfM M) l).drop n = srt (cfM M) (l ++ [k]) := by
  have hp := srt_perm (cfM M) l
  refine srt_eq (List.nodup_append.2 ⟨hn, by simp, fun a ha b hb => by simp at hb; subst hb; intro e; exact hk (e ▸ ha)⟩) ?_ ?_
  · refine List.Perm.trans ?_ (List.Perm.append_right [k] hp)
    rw [List.append_assoc]
    refine ((List.perm_append_comm (l₁ := [k]) (l₂ := (srt (cfM M) l).drop n)).append_left _).trans ?_
    rw [← List.append_assoc, List.take_append_drop]
  · have hs := srt_pair M hn
    rw [← List.take_append_drop n (srt (cfM M) l), List.pairwise_append] at hs
    rw [List.append_assoc, List.pairwise_append, List.singleton_append, List.pairwise_cons]
    refine ⟨hs.1, ⟨h1, hs.2.1⟩, fun a ha b hb => ?_⟩
    rcases List.mem_cons.1 hb with rfl | hb
    · exact h0 a ha
    · exact (h0 a ha).trans (h1 b hb)
def mkAt (l : List Mk) (k : Int) : Int × Int := (ix l k).2
def dueB (l : List Mk) (now k : Int) : Bool := (ix l k).1 && decide ((ix l k).2.1 ≤ now)
def dueN (l : List Mk) (now : Int) (n : Nat) : List Int := ((List.range n).map fun i : Nat => (i : Int)).filter (dueB l now)
def clrOne (now : Int) (m : Mk) : Mk := if m.1 && decide (m.2.1 ≤ now) then (false, 0, 0) else m
def clr (l : List Mk) (now : Int) : List Mk := l.map (clrOne now)
def nowR (w : Wh) (to : Int) : Int := if w.2 < to then to else w.2
def outR (w : Wh) (to : Int) : List Int := srt (cfM (mkAt w.1)) (dueN w.1 (nowR w to) w.1.length)
def toR (w : Wh) (to : Int) : Wh := (clr w.1 (nowR w to), nowR w to)
def conRTo : Con := (fnRV [.d tpWh, .d (.i .u64)] (fun (w : Wh) (to : Int) => w.1.length ≤ 4096) (fun (w : Wh) (to : Int) => .tup [.x tpWh (toR w to), .own 0]) (fun (w : Wh) (to : Int) => [mkRow 3 (.i .i64) (outR w to)])).firm
theorem aheadR_iff {w : Wh} {a b : Int} : aheadR w a b = true ↔ ltM (mkAt w.1) a b := by
  unfold aheadR ltM mkAt
  split
  · split
    · simp; omega
    · simp; omega
  · simp; omega
theorem dueN_mem {l : List Mk} {now k : Int} {n : Nat} : k ∈ dueN l now n ↔ 0 ≤ k ∧ k < n ∧ dueB l now k = true := by
  unfold dueN
  rw [List.mem_filter, List.mem_map]
  constructor
  · rintro ⟨⟨i, hi, rfl⟩, h⟩
    rw [List.mem_range] at hi
    exact ⟨by omega, by omega, h⟩
  · rintro ⟨h0, h1, h⟩
    exact ⟨⟨k.toNat, by rw [List.mem_range]; omega, by omega⟩, h⟩
theorem dueN_nodup (l : List Mk) (now : Int) (n : Nat) : (dueN l now n).Nodup := by
  unfold dueN
  refine List.Pairwise.filter _ ?_
  rw [List.pairwise_map]
  exact (List.nodup_range (n := n)).imp fun h e => h (by omega)
theorem dueN_succ (l : List Mk) (now : Int) (n : Nat) : dueN l now (n + 1) = dueN l now n ++ if dueB l now n then [(n : Int)] else [] := by
  unfold dueN
  rw [List.range_succ, List.map_append, List.filter_append]
  simp only [List.map_cons, List.map_nil, List.filter_cons, List.filter_nil]
theorem dueN_length (l : List Mk) (now : Int) (n : Nat) : (dueN l now n).length ≤ n := by
  unfold dueN
  refine Nat.le_trans (List.length_filter_le _ _) ?_
  simp
theorem srt_length (cf : Int → Int → Int) (l : List Int) : (srt cf l).length = l.length := (srt_perm cf l).length_eq
theorem srt_mem {cf : Int → Int → Int} {l : List Int} {x : Int} : x ∈ srt cf l ↔ x ∈ l := (srt_perm cf l).mem_iff
/-- The marks of the first ones of a list are let be. -/
def clrL (l : List Mk) (ks : List Int) : List Mk := ks.foldl (fun l k => l.set k.toNat (false, 0, 0)) l
theorem clrL_get : ∀ {ks : List Int} {l : List Mk} {i : Nat}, (∀ k ∈ ks, 0 ≤ k) → (clrL l ks)[i]? = if (i : Int) ∈ ks then (l[i]?).map fun _ => (false, 0, 0) else l[i]?
  | [], l, i, _ => by simp [clrL]
  | k :: ks, l, i, h => by
    have h0 := h k (by simp)
    show (clrL (l.set k.toNat (false, 0, 0)) ks)[i]? = _
    rw [clrL_get (fun k' hk => h k' (by simp [hk]))]
    by_cases e : (i : Int) = k
    · have e2 : k.toNat = i := by omega
      subst e2
      simp only [List.mem_cons, e, true_or, if_true, List.getElem?_set_self']
      split <;> cases l[k.toNat]? <;> rfl
    · have e2 : ¬ k.toNat = i := by omega
      simp only [List.mem_cons, e, false_or, List.getElem?_set, if_neg e2]
theorem clrL_length : ∀ {ks : List Int} {l : List Mk}, (clrL l ks).length = l.length
  | [], l => rfl
  | k :: ks, l => by
    show (clrL (l.set k.toNat (false, 0, 0)) ks).length = _
    rw [clrL_length, List.length_set]
theorem ix_get0 {l : List Mk} {i : Nat} (h : i < l.length) : ix l (i : Int) = l[i] := by
  unfold ix
  rw [List.getD_eq_getElem?_getD, Int.toNat_natCast, List.getElem?_eq_getElem h]
  rfl
theorem clr_eq {l : List Mk} {now : Int} {ks : List Int} (h : ∀ k, k ∈ ks ↔ k ∈ dueN l now l.length) : clrL l ks = clr l now := by
  apply List.ext_getElem?
  intro i
  rw [clrL_get (fun k hk => (dueN_mem.1 ((h k).1 hk)).1)]
  unfold clr
  rw [List.getElem?_map]
  by_cases hi : i < l.length
  · rw [List.getElem?_eq_getElem hi]
    have e : ((i : Int) ∈ ks) ↔ dueB l now i = true := by rw [h, dueN_mem]; exact ⟨fun h => h.2.2, fun h => ⟨by omega, by omega, h⟩⟩
    simp only [Option.map_some, clrOne]
    unfold dueB at e
    rw [ix_get0 hi] at e
    by_cases c : (l[i]).1 && decide ((l[i]).2.1 ≤ now)
    · rw [if_pos (e.2 c), if_pos c]
    · rw [if_neg (fun q => c (e.1 q)), if_neg c]
  · rw [List.getElem?_eq_none (by omega)]
    simp
theorem clrL_snoc (l : List Mk) (ks : List Int) (k : Int) : clrL l (ks ++ [k]) = (clrL l ks).set k.toNat (false, 0, 0) := by simp [clrL]
end Go.Proofs.Ytlkmdighjgpdlaa
/- The document's going on to a time. -/
namespace Go.Proofs.Ytlkmdighjgpdlaa
open Go Go.Fx

set_option maxRecDepth 10000 in
theorem rto_vc :
  ∀ x0 : (List (Bool × (Int × Int)) × Int),
  ∀ x1 : Int,
  (List.length (Prod.fst x0) ≤ (4096 : Nat)) →
  ((litCmp BinOp.gtr x1 (Prod.snd x0) = true) →
   ∀ x2 : (List (Bool × (Int × Int)) × Int),
   (x2 = (Prod.fst x0, x1)) →
   ∃ x3 : Int → List Int → Prop,
   ∃ x4 : Int → List Int → Nat,
   (x3 (0 : Int) []) ∧
   (∀ x5 : Int,
    ∀ x6 : List Int,
    (x3 x5 x6) →
    ((litCmp BinOp.lss x5 (↑(List.length (Prod.fst x2)) : Int) = true) →
     (((0 : Int) ≤ x5) ∧
      (x5 < (↑(List.length (Prod.fst x2)) : Int))) ∧
     ((((!Prod.fst (ix (Prod.fst x2) x5)) = true) →
       ∀ x7 : Int,
       (x7 = litArith BinOp.add IntKind.i64 x5 (1 : Int)) →
       (x2 = x2) ∧
       ((x3 x7 x6) ∧
        (x4 x7 x6 < x4 x5 x6))) ∧
      (((!Prod.fst (ix (Prod.fst x2) x5)) = false) →
       (((0 : Int) ≤ x5) ∧
        (x5 < (↑(List.length (Prod.fst x2)) : Int))) ∧
       (((litCmp BinOp.gtr (Prod.fst (Prod.snd (ix (Prod.fst x2) x5))) (Prod.snd x2) = true) →
         ∀ x8 : Int,
         (x8 = litArith BinOp.add IntKind.i64 x5 (1 : Int)) →
         (x2 = x2) ∧
         ((x3 x8 x6) ∧
          (x4 x8 x6 < x4 x5 x6))) ∧
        ((litCmp BinOp.gtr (Prod.fst (Prod.snd (ix (Prod.fst x2) x5))) (Prod.snd x2) = false) →
         ∃ x9 : Int → Prop,
         ∃ x10 : Int → Nat,
         (x9 (↑(List.length x6) : Int)) ∧
         (∀ x11 : Int,
          (x9 x11) →
          ((litCmp BinOp.gtr x11 (0 : Int) = true) →
           (((0 : Int) ≤ litArith BinOp.sub IntKind.i64 x11 (1 : Int)) ∧
            (litArith BinOp.sub IntKind.i64 x11 (1 : Int) < (↑(List.length x6) : Int))) ∧
           ((((0 : Int) ≤ x5) ∧
             ((x5 < (↑(List.length (Prod.fst x2)) : Int)) ∧
              (((0 : Int) ≤ ix x6 (litArith BinOp.sub IntKind.i64 x11 (1 : Int))) ∧
               (ix x6 (litArith BinOp.sub IntKind.i64 x11 (1 : Int)) < (↑(List.length (Prod.fst x2)) : Int))))) ∧
            (True →
             ((aheadR x2 x5 (ix x6 (litArith BinOp.sub IntKind.i64 x11 (1 : Int))) = true) →
              ∀ x12 : Int,
              (x12 = litArith BinOp.sub IntKind.i64 x11 (1 : Int)) →
              (x5 = x5) ∧
              ((x5 = x5) ∧
               ((Prod.fst x2 = Prod.fst x2) ∧
                (((↑(List.length (Prod.fst x2)) : Int) = (↑(List.length (Prod.fst x2)) : Int)) ∧
                 (((↑(List.length (Prod.fst x2)) : Int) = (↑(List.length (Prod.fst x2)) : Int)) ∧
                  ((litCmp BinOp.lss x5 (↑(List.length (Prod.fst x2)) : Int) = litCmp BinOp.lss x5 (↑(List.length (Prod.fst x2)) : Int)) ∧
                   ((Prod.fst x2 = Prod.fst x2) ∧
                    (((↑(List.length (Prod.fst x2)) : Int) = (↑(List.length (Prod.fst x2)) : Int)) ∧
                     ((x5 = x5) ∧
                      ((Prod.fst (ix (Prod.fst x2) x5) = Prod.fst (ix (Prod.fst x2) x5)) ∧
                       (((!Prod.fst (ix (Prod.fst x2) x5)) = !Prod.fst (ix (Prod.fst x2) x5)) ∧
                        ((Prod.fst x2 = Prod.fst x2) ∧
                         (((↑(List.length (Prod.fst x2)) : Int) = (↑(List.length (Prod.fst x2)) : Int)) ∧
                          ((x5 = x5) ∧
                           ((Prod.fst (Prod.snd (ix (Prod.fst x2) x5)) = Prod.fst (Prod.snd (ix (Prod.fst x2) x5))) ∧
                            ((Prod.snd x2 = Prod.snd x2) ∧
                             ((litCmp BinOp.gtr (Prod.fst (Prod.snd (ix (Prod.fst x2) x5))) (Prod.snd x2) = litCmp BinOp.gtr (Prod.fst (Prod.snd (ix (Prod.fst x2) x5))) (Prod.snd x2)) ∧
                              ((litCmp BinOp.gtr (Prod.fst (Prod.snd (ix (Prod.fst x2) x5))) (Prod.snd x2) = litCmp BinOp.gtr (Prod.fst (Prod.snd (ix (Prod.fst x2) x5))) (Prod.snd x2)) ∧
                               (((↑(List.length x6) : Int) = (↑(List.length x6) : Int)) ∧
                                ((x2 = x2) ∧
                                 ((x6 = x6) ∧
                                  (((↑(List.length x6) : Int) = (↑(List.length x6) : Int)) ∧
                                   ((x9 x12) ∧
                                    (x10 x12 < x10 x11)))))))))))))))))))))))) ∧
             ((aheadR x2 x5 (ix x6 (litArith BinOp.sub IntKind.i64 x11 (1 : Int))) = false) →
              (((0 : Int) ≤ (↑(List.length x6) : Int) - x11) ∧
               (((↑(List.length x6) : Int) - x11) * (8 : Int) ≤ (140737488355328 : Int))) ∧
              (((0 : Int) ≤ x11) ∧
               ((x11 ≤ (↑(List.length x6) : Int)) ∧
                (∀ x13 : List Int,
                 (x13 = [] ++ List.take (Int.toNat ((↑(List.length x6) : Int) - x11)) (List.drop (Int.toNat x11) x6)) →
                 (((0 : Int) ≤ x11 + (1 : Int)) ∧
                  ((x11 + (1 : Int)) * (8 : Int) ≤ (140737488355328 : Int))) ∧
                 (((0 : Int) ≤ x11) ∧
                  ((x11 ≤ (↑(List.length x6) : Int)) ∧
                   (∀ x14 : List Int,
                    (x14 = List.take (Int.toNat x11) x6 ++ [x5]) →
                    (((0 : Int) ≤ x11 + (1 : Int) + ((↑(List.length x6) : Int) - x11)) ∧
                     ((x11 + (1 : Int) + ((↑(List.length x6) : Int) - x11)) * (8 : Int) ≤ (140737488355328 : Int))) ∧
                    (∀ x15 : List Int,
                     (x15 = x14 ++ x13) →
                     ∀ x16 : Int,
                     (x16 = litArith BinOp.add IntKind.i64 x5 (1 : Int)) →
                     (x2 = x2) ∧
                     ((x3 x16 x15) ∧
                      (x4 x16 x15 < x4 x5 x6))))))))))))) ∧
          ((litCmp BinOp.gtr x11 (0 : Int) = false) →
           (((0 : Int) ≤ (↑(List.length x6) : Int) - x11) ∧
            (((↑(List.length x6) : Int) - x11) * (8 : Int) ≤ (140737488355328 : Int))) ∧
           (((0 : Int) ≤ x11) ∧
            ((x11 ≤ (↑(List.length x6) : Int)) ∧
             (∀ x17 : List Int,
              (x17 = [] ++ List.take (Int.toNat ((↑(List.length x6) : Int) - x11)) (List.drop (Int.toNat x11) x6)) →
              (((0 : Int) ≤ x11 + (1 : Int)) ∧
               ((x11 + (1 : Int)) * (8 : Int) ≤ (140737488355328 : Int))) ∧
              (((0 : Int) ≤ x11) ∧
               ((x11 ≤ (↑(List.length x6) : Int)) ∧
                (∀ x18 : List Int,
                 (x18 = List.take (Int.toNat x11) x6 ++ [x5]) →
                 (((0 : Int) ≤ x11 + (1 : Int) + ((↑(List.length x6) : Int) - x11)) ∧
                  ((x11 + (1 : Int) + ((↑(List.length x6) : Int) - x11)) * (8 : Int) ≤ (140737488355328 : Int))) ∧
                 (∀ x19 : List Int,
                  (x19 = x18 ++ x17) →
                  ∀ x20 : Int,
                  (x20 = litArith BinOp.add IntKind.i64 x5 (1 : Int)) →
                  (x2 = x2) ∧
                  ((x3 x20 x19) ∧
                   (x4 x20 x19 < x4 x5 x6)))))))))))))))) ∧
    ((litCmp BinOp.lss x5 (↑(List.length (Prod.fst x2)) : Int) = false) →
     ∃ x21 : Int → (List (Bool × (Int × Int)) × Int) → Prop,
     ∃ x22 : Int → (List (Bool × (Int × Int)) × Int) → Nat,
     (x21 (0 : Int) x2) ∧
     (∀ x23 : Int,
      ∀ x24 : (List (Bool × (Int × Int)) × Int),
      (x21 x23 x24) →
      ((litCmp BinOp.lss x23 (↑(List.length x6) : Int) = true) →
       (((0 : Int) ≤ x23) ∧
        (x23 < (↑(List.length x6) : Int))) ∧
       ((((0 : Int) ≤ ix x6 x23) ∧
         ((ix x6 x23 < (↑(List.length (Prod.fst x24)) : Int)) ∧
          (List.length (Prod.fst x24) ≤ (4096 : Nat)))) ∧
        (True →
         ∀ x25 : Int,
         (x25 = litArith BinOp.add IntKind.i64 x23 (1 : Int)) →
         (x6 = x6) ∧
         (((↑(List.length x6) : Int) = (↑(List.length x6) : Int)) ∧
          ((x21 x25 (withR x24 (ix x6 x23) (false, (0 : Int), (0 : Int)))) ∧
           (x22 x25 (withR x24 (ix x6 x23) (false, (0 : Int), (0 : Int))) < x22 x23 x24)))))) ∧
      ((litCmp BinOp.lss x23 (↑(List.length x6) : Int) = false) →
       ∀ x26 : (List (Bool × (Int × Int)) × Int),
       (x26 = x24) →
       (True) ∧
       ((x26 = toR x0 x1) ∧
        ((x6 = outR x0 x1) ∧
         (((↑(List.length x6) : Int) = (↑(List.length (outR x0 x1)) : Int)) ∧
          (True))))))))) ∧
  ((litCmp BinOp.gtr x1 (Prod.snd x0) = false) →
   ∃ x27 : Int → List Int → Prop,
   ∃ x28 : Int → List Int → Nat,
   (x27 (0 : Int) []) ∧
   (∀ x29 : Int,
    ∀ x30 : List Int,
    (x27 x29 x30) →
    ((litCmp BinOp.lss x29 (↑(List.length (Prod.fst x0)) : Int) = true) →
     (((0 : Int) ≤ x29) ∧
      (x29 < (↑(List.length (Prod.fst x0)) : Int))) ∧
     ((((!Prod.fst (ix (Prod.fst x0) x29)) = true) →
       ∀ x31 : Int,
       (x31 = litArith BinOp.add IntKind.i64 x29 (1 : Int)) →
       (x0 = x0) ∧
       ((x27 x31 x30) ∧
        (x28 x31 x30 < x28 x29 x30))) ∧
      (((!Prod.fst (ix (Prod.fst x0) x29)) = false) →
       (((0 : Int) ≤ x29) ∧
        (x29 < (↑(List.length (Prod.fst x0)) : Int))) ∧
       (((litCmp BinOp.gtr (Prod.fst (Prod.snd (ix (Prod.fst x0) x29))) (Prod.snd x0) = true) →
         ∀ x32 : Int,
         (x32 = litArith BinOp.add IntKind.i64 x29 (1 : Int)) →
         (x0 = x0) ∧
         ((x27 x32 x30) ∧
          (x28 x32 x30 < x28 x29 x30))) ∧
        ((litCmp BinOp.gtr (Prod.fst (Prod.snd (ix (Prod.fst x0) x29))) (Prod.snd x0) = false) →
         ∃ x33 : Int → Prop,
         ∃ x34 : Int → Nat,
         (x33 (↑(List.length x30) : Int)) ∧
         (∀ x35 : Int,
          (x33 x35) →
          ((litCmp BinOp.gtr x35 (0 : Int) = true) →
           (((0 : Int) ≤ litArith BinOp.sub IntKind.i64 x35 (1 : Int)) ∧
            (litArith BinOp.sub IntKind.i64 x35 (1 : Int) < (↑(List.length x30) : Int))) ∧
           ((((0 : Int) ≤ x29) ∧
             ((x29 < (↑(List.length (Prod.fst x0)) : Int)) ∧
              (((0 : Int) ≤ ix x30 (litArith BinOp.sub IntKind.i64 x35 (1 : Int))) ∧
               (ix x30 (litArith BinOp.sub IntKind.i64 x35 (1 : Int)) < (↑(List.length (Prod.fst x0)) : Int))))) ∧
            (True →
             ((aheadR x0 x29 (ix x30 (litArith BinOp.sub IntKind.i64 x35 (1 : Int))) = true) →
              ∀ x36 : Int,
              (x36 = litArith BinOp.sub IntKind.i64 x35 (1 : Int)) →
              (x29 = x29) ∧
              ((x29 = x29) ∧
               ((Prod.fst x0 = Prod.fst x0) ∧
                (((↑(List.length (Prod.fst x0)) : Int) = (↑(List.length (Prod.fst x0)) : Int)) ∧
                 (((↑(List.length (Prod.fst x0)) : Int) = (↑(List.length (Prod.fst x0)) : Int)) ∧
                  ((litCmp BinOp.lss x29 (↑(List.length (Prod.fst x0)) : Int) = litCmp BinOp.lss x29 (↑(List.length (Prod.fst x0)) : Int)) ∧
                   ((Prod.fst x0 = Prod.fst x0) ∧
                    (((↑(List.length (Prod.fst x0)) : Int) = (↑(List.length (Prod.fst x0)) : Int)) ∧
                     ((x29 = x29) ∧
                      ((Prod.fst (ix (Prod.fst x0) x29) = Prod.fst (ix (Prod.fst x0) x29)) ∧
                       (((!Prod.fst (ix (Prod.fst x0) x29)) = !Prod.fst (ix (Prod.fst x0) x29)) ∧
                        ((Prod.fst x0 = Prod.fst x0) ∧
                         (((↑(List.length (Prod.fst x0)) : Int) = (↑(List.length (Prod.fst x0)) : Int)) ∧
                          ((x29 = x29) ∧
                           ((Prod.fst (Prod.snd (ix (Prod.fst x0) x29)) = Prod.fst (Prod.snd (ix (Prod.fst x0) x29))) ∧
                            ((Prod.snd x0 = Prod.snd x0) ∧
                             ((litCmp BinOp.gtr (Prod.fst (Prod.snd (ix (Prod.fst x0) x29))) (Prod.snd x0) = litCmp BinOp.gtr (Prod.fst (Prod.snd (ix (Prod.fst x0) x29))) (Prod.snd x0)) ∧
                              ((litCmp BinOp.gtr (Prod.fst (Prod.snd (ix (Prod.fst x0) x29))) (Prod.snd x0) = litCmp BinOp.gtr (Prod.fst (Prod.snd (ix (Prod.fst x0) x29))) (Prod.snd x0)) ∧
                               (((↑(List.length x30) : Int) = (↑(List.length x30) : Int)) ∧
                                ((x0 = x0) ∧
                                 ((x30 = x30) ∧
                                  (((↑(List.length x30) : Int) = (↑(List.length x30) : Int)) ∧
                                   ((x33 x36) ∧
                                    (x34 x36 < x34 x35)))))))))))))))))))))))) ∧
             ((aheadR x0 x29 (ix x30 (litArith BinOp.sub IntKind.i64 x35 (1 : Int))) = false) →
              (((0 : Int) ≤ (↑(List.length x30) : Int) - x35) ∧
               (((↑(List.length x30) : Int) - x35) * (8 : Int) ≤ (140737488355328 : Int))) ∧
              (((0 : Int) ≤ x35) ∧
               ((x35 ≤ (↑(List.length x30) : Int)) ∧
                (∀ x37 : List Int,
                 (x37 = [] ++ List.take (Int.toNat ((↑(List.length x30) : Int) - x35)) (List.drop (Int.toNat x35) x30)) →
                 (((0 : Int) ≤ x35 + (1 : Int)) ∧
                  ((x35 + (1 : Int)) * (8 : Int) ≤ (140737488355328 : Int))) ∧
                 (((0 : Int) ≤ x35) ∧
                  ((x35 ≤ (↑(List.length x30) : Int)) ∧
                   (∀ x38 : List Int,
                    (x38 = List.take (Int.toNat x35) x30 ++ [x29]) →
                    (((0 : Int) ≤ x35 + (1 : Int) + ((↑(List.length x30) : Int) - x35)) ∧
                     ((x35 + (1 : Int) + ((↑(List.length x30) : Int) - x35)) * (8 : Int) ≤ (140737488355328 : Int))) ∧
                    (∀ x39 : List Int,
                     (x39 = x38 ++ x37) →
                     ∀ x40 : Int,
                     (x40 = litArith BinOp.add IntKind.i64 x29 (1 : Int)) →
                     (x0 = x0) ∧
                     ((x27 x40 x39) ∧
                      (x28 x40 x39 < x28 x29 x30))))))))))))) ∧
          ((litCmp BinOp.gtr x35 (0 : Int) = false) →
           (((0 : Int) ≤ (↑(List.length x30) : Int) - x35) ∧
            (((↑(List.length x30) : Int) - x35) * (8 : Int) ≤ (140737488355328 : Int))) ∧
           (((0 : Int) ≤ x35) ∧
            ((x35 ≤ (↑(List.length x30) : Int)) ∧
             (∀ x41 : List Int,
              (x41 = [] ++ List.take (Int.toNat ((↑(List.length x30) : Int) - x35)) (List.drop (Int.toNat x35) x30)) →
              (((0 : Int) ≤ x35 + (1 : Int)) ∧
               ((x35 + (1 : Int)) * (8 : Int) ≤ (140737488355328 : Int))) ∧
              (((0 : Int) ≤ x35) ∧
               ((x35 ≤ (↑(List.length x30) : Int)) ∧
                (∀ x42 : List Int,
                 (x42 = List.take (Int.toNat x35) x30 ++ [x29]) →
                 (((0 : Int) ≤ x35 + (1 : Int) + ((↑(List.length x30) : Int) - x35)) ∧
                  ((x35 + (1 : Int) + ((↑(List.length x30) : Int) - x35)) * (8 : Int) ≤ (140737488355328 : Int))) ∧
                 (∀ x43 : List Int,
                  (x43 = x42 ++ x41) →
                  ∀ x44 : Int,
                  (x44 = litArith BinOp.add IntKind.i64 x29 (1 : Int)) →
                  (x0 = x0) ∧
                  ((x27 x44 x43) ∧
                   (x28 x44 x43 < x28 x29 x30)))))))))))))))) ∧
    ((litCmp BinOp.lss x29 (↑(List.length (Prod.fst x0)) : Int) = false) →
     ∃ x45 : Int → (List (Bool × (Int × Int)) × Int) → Prop,
     ∃ x46 : Int → (List (Bool × (Int × Int)) × Int) → Nat,
     (x45 (0 : Int) x0) ∧
     (∀ x47 : Int,
      ∀ x48 : (List (Bool × (Int × Int)) × Int),
      (x45 x47 x48) →
      ((litCmp BinOp.lss x47 (↑(List.length x30) : Int) = true) →
       (((0 : Int) ≤ x47) ∧
        (x47 < (↑(List.length x30) : Int))) ∧
       ((((0 : Int) ≤ ix x30 x47) ∧
         ((ix x30 x47 < (↑(List.length (Prod.fst x48)) : Int)) ∧
          (List.length (Prod.fst x48) ≤ (4096 : Nat)))) ∧
        (True →
         ∀ x49 : Int,
         (x49 = litArith BinOp.add IntKind.i64 x47 (1 : Int)) →
         (x30 = x30) ∧
         (((↑(List.length x30) : Int) = (↑(List.length x30) : Int)) ∧
          ((x45 x49 (withR x48 (ix x30 x47) (false, (0 : Int), (0 : Int)))) ∧
           (x46 x49 (withR x48 (ix x30 x47) (false, (0 : Int), (0 : Int))) < x46 x47 x48)))))) ∧
      ((litCmp BinOp.lss x47 (↑(List.length x30) : Int) = false) →
       ∀ x50 : (List (Bool × (Int × Int)) × Int),
       (x50 = x48) →
       (True) ∧
       ((x50 = toR x0 x1) ∧
        ((x30 = outR x0 x1) ∧
         (((↑(List.length x30) : Int) = (↑(List.length (outR x0 x1)) : Int)) ∧
          (True))))))))) := by
  intro x0 x1 hlen
  simp only [gtrT, gtrF, lssT, lssF, leqT, leqF, geqT, geqF, eqlT, eqlF, neqT, neqF, true_and, and_true, true_implies, implies_true, Bool.not_eq_true', Bool.not_eq_false', bne_iff_ne, ne_eq, not_true_eq_false, not_false_eq_true, Int.toNat_natCast, same_self, reduceCtorEq, false_implies, List.nil_append]
  have hTO : ∀ w : Wh, w.1 = x0.1 → w.2 = nowR x0 x1 → toR x0 x1 = (clr w.1 w.2, w.2) ∧ outR x0 x1 = srt (cfM (mkAt w.1)) (dueN w.1 w.2 w.1.length) := fun w e1 e2 => by
    rw [e1, e2]; exact ⟨rfl, rfl⟩
  generalize toR x0 x1 = T at hTO
  generalize outR x0 x1 = O at hTO
  refine ⟨fun hgt w hw => ?_, fun hgt => ?_⟩
  obtain ⟨hT, hO⟩ := hTO w (by rw [hw]) (by rw [hw]; simp only [nowR]; rw [if_pos hgt])
  have hl : w.1.length ≤ 4096 := by rw [hw]; exact hlen
  clear hTO hlen hw hgt
  rotate_left
  obtain ⟨hT, hO⟩ := hTO x0 rfl (by simp only [nowR]; rw [if_neg (by omega)])
  have hl := hlen
  clear hTO hlen hgt
  have hw : ∃ w : Wh, w = x0 := ⟨_, rfl⟩
  obtain ⟨w, hw⟩ := hw
  subst hw
  all_goals
    have hadd : ∀ n : Nat, n ≤ 4096 → litArith .add .i64 (n : Int) 1 = n + 1 := fun n hn => addI_ (by omega) (by omega)
    refine ⟨fun k out => 0 ≤ k ∧ k ≤ w.1.length ∧ out = srt (cfM (mkAt w.1)) (dueN w.1 w.2 k.toNat), fun k _ => ((w.1.length : Int) - k).toNat, ⟨Int.le_refl _, Int.natCast_nonneg _, by simp [dueN, srt]⟩, ?_⟩
    rintro k out ⟨k0, k1, hout⟩
    obtain ⟨m, rfl⟩ := Int.eq_ofNat_of_zero_le k0
    simp only [Int.toNat_natCast] at hout
    have hlo : out.length ≤ m := by rw [hout, srt_length]; exact dueN_length _ _ _
    have hmem2 : ∀ x ∈ out, x ∈ dueN w.1 w.2 m := fun x hx => srt_mem.1 (by rw [← hout]; exact hx)
    have hsucc : ((m : Int) + 1).toNat = m + 1 := by omega
    refine ⟨fun hi => ⟨⟨k0, hi⟩, fun hn => ?_, fun hn => ⟨⟨k0, hi⟩, fun hg => ?_, fun hg => ?_⟩⟩, fun hi => ?_⟩
    · rintro _ rfl
      rw [hadd m (by omega)]
      refine ⟨⟨by omega, by omega, ?_⟩, meas hi⟩
      rw [hsucc, dueN_succ, if_neg (by simp [dueB, hn]), List.append_nil]
      exact hout
    · rintro _ rfl
      rw [hadd m (by omega)]
      refine ⟨⟨by omega, by omega, ?_⟩, meas hi⟩
      rw [hsucc, dueN_succ, if_neg (by simp [dueB]; intro _; omega), List.append_nil]
      exact hout
    · have hdue : dueB w.1 w.2 m = true := by simp [dueB, hn, hg]
      have hnm : (m : Int) ∉ dueN w.1 w.2 m := fun q => by have := (dueN_mem.1 q).2.1; omega
      have fin : ∀ a : Int, 0 ≤ a → a ≤ out.length → (∀ x ∈ out.drop a.toNat, ltM (mkAt w.1) m x) → (∀ x ∈ out.take a.toNat, ltM (mkAt w.1) x m) → out.take a.toNat ++ [(m : Int)] ++ List.take ((out.length : Int) - a).toNat (out.drop a.toNat) = srt (cfM (mkAt w.1)) (dueN w.1 w.2 (m + 1)) := fun a a0 a1 h1 h0 => by
        have hdr : List.take ((out.length : Int) - a).toNat (out.drop a.toNat) = out.drop a.toNat := List.take_of_length_le (by rw [List.length_drop]; omega)
        rw [hdr, dueN_succ, if_pos hdue, hout]
        rw [hout] at h1 h0
        exact srt_put (dueN_nodup _ _ _) hnm h1 h0
      refine ⟨fun a => 0 ≤ a ∧ a ≤ out.length ∧ ∀ x ∈ out.drop a.toNat, ltM (mkAt w.1) m x, fun a => a.toNat, ⟨by omega, Int.le_refl _, by simp⟩, ?_⟩
      rintro a ⟨a0, a1, ha⟩
      refine ⟨fun hpos => ?_, fun hz => ?_⟩
      · rw [subI_ (x := a) (y := 1) (by omega) (by omega)]
        have hlt : (a - 1).toNat < out.length := by omega
        have hix : ix out (a - 1) = out[(a - 1).toNat] := by
          unfold ix
          rw [List.getD_eq_getElem?_getD, List.getElem?_eq_getElem hlt]
          rfl
        have hmem : ix out (a - 1) ∈ out := by rw [hix]; exact List.getElem_mem _
        have hd := dueN_mem.1 (hmem2 _ hmem)
        refine ⟨⟨by omega, by omega⟩, ⟨k0, hi, hd.1, by omega⟩, fun hah => ?_, fun hah => ?_⟩
        · rintro _ rfl
          refine ⟨⟨by omega, by omega, fun x hx => ?_⟩, show (a - 1).toNat < a.toNat by omega⟩
          rw [List.drop_eq_getElem_cons hlt, show (a - 1).toNat + 1 = a.toNat from by omega] at hx
          rcases List.mem_cons.1 hx with rfl | hx
          · rw [← hix]; exact aheadR_iff.1 hah
          · exact ha x hx
        · have hnot : ¬ ltM (mkAt w.1) m (ix out (a - 1)) := fun q => by rw [aheadR_iff.2 q] at hah; cases hah
          have hne : ix out (a - 1) ≠ m := by omega
          have hlt2 : ltM (mkAt w.1) (ix out (a - 1)) m := by
            by_cases q : ltM (mkAt w.1) (ix out (a - 1)) m
            · exact q
            · exact absurd (ltM.tri q hnot) hne
          have h0 : ∀ x ∈ out.take a.toNat, ltM (mkAt w.1) x m := fun x hx => by
            rw [show a.toNat = (a - 1).toNat + 1 from by omega, List.take_add_one, List.getElem?_eq_getElem hlt, Option.toList_some] at hx
            rcases List.mem_append.1 hx with hx | hx
            · have hs := srt_pair (mkAt w.1) (dueN_nodup w.1 w.2 m)
              rw [← hout, ← List.take_append_drop (a - 1).toNat out, List.pairwise_append] at hs
              exact (hs.2.2 x hx (ix out (a - 1)) (by rw [hix, List.drop_eq_getElem_cons hlt]; exact List.mem_cons_self)).trans hlt2
            · simp only [List.mem_singleton] at hx
              rw [hx, ← hix]; exact hlt2
          refine ⟨⟨by omega, by omega⟩, a0, a1, ?_⟩
          rintro _ rfl
          refine ⟨⟨by omega, by omega⟩, a0, a1, ?_⟩
          rintro _ rfl
          refine ⟨⟨by omega, by omega⟩, ?_⟩
          rintro _ rfl _ rfl
          rw [hadd m (by omega)]
          exact ⟨⟨by omega, by omega, by rw [hsucc]; exact fin a a0 a1 ha h0⟩, meas hi⟩
      · obtain rfl : a = 0 := by omega
        refine ⟨⟨by omega, by omega⟩, a0, a1, ?_⟩
        rintro _ rfl
        refine ⟨⟨by omega, by omega⟩, a0, a1, ?_⟩
        rintro _ rfl
        refine ⟨⟨by omega, by omega⟩, ?_⟩
        rintro _ rfl _ rfl
        rw [hadd m (by omega)]
        exact ⟨⟨by omega, by omega, by rw [hsucc]; exact fin 0 a0 a1 ha (by simp)⟩, meas hi⟩
    · have hmN : m = w.1.length := by omega
      subst hmN
      have hO' : out = O := by rw [hout, hO]
      refine ⟨fun k v => 0 ≤ k ∧ k ≤ out.length ∧ v = (clrL w.1 (out.take k.toNat), w.2), fun k _ => ((out.length : Int) - k).toNat, ⟨Int.le_refl _, Int.natCast_nonneg _, by simp [clrL]⟩, ?_⟩
      rintro k v ⟨j0, j1, rfl⟩
      obtain ⟨j, rfl⟩ := Int.eq_ofNat_of_zero_le j0
      simp only [Int.toNat_natCast, clrL_length]
      refine ⟨fun hj => ?_, fun hj => ?_⟩
      · have hlt : j < out.length := by omega
        have hix : ix out (j : Int) = out[j] := by
          unfold ix
          rw [List.getD_eq_getElem?_getD, Int.toNat_natCast, List.getElem?_eq_getElem hlt]
          rfl
        have hmem : ix out (j : Int) ∈ out := by rw [hix]; exact List.getElem_mem _
        have hd := dueN_mem.1 (hmem2 _ hmem)
        refine ⟨⟨j0, hj⟩, ⟨hd.1, hd.2.1, hl⟩, ?_⟩
        rintro _ rfl
        rw [hadd j (by omega)]
        refine ⟨⟨by omega, by omega, ?_⟩, meas hj⟩
        rw [show ((j : Int) + 1).toNat = j + 1 from by omega, List.take_add_one, List.getElem?_eq_getElem hlt, Option.toList_some, clrL_snoc, hix]
        rfl
      · rintro _ rfl
        have : j = out.length := by omega
        subst this
        rw [List.take_length, hT, clr_eq (fun k => by rw [hout]; exact srt_mem)]
        exact ⟨rfl, hO', by rw [hO']⟩
set_option maxRecDepth 10000 in
theorem rto_ok : conRTo.ok KK Try.prog 18 := by
  refine Con.of_vc ([(0, ⟨[], [(6, .is (.own 0)), (7, .d (.i .i64))], [], [0], []⟩), (2, ⟨[], [(8, .d (.i .i64)), (28, .is .junk), (29, .is .junk), (36, .is .junk), (37, .is .junk)], [], [], []⟩), (4, ⟨[], [(10, .d (.i .i64))], [(0, .pk tpWh)], [], []⟩)]) ([]) TT_ok follows Try.func18 ?_ G34_ok (@toVC _ _ rto_vc ?_)
  · kernel_rfl
  · kernel_rfl
noncomputable def G35 : List (FuncId × Con) := (18, conRTo) :: G34
theorem G35_ok : GOK KK Try.prog G35 := GOK.cons (Callable.of Try.func18 (by kernel_rfl) (by kernel_rfl)) rto_ok G34_ok
end Go.Proofs.Ytlkmdighjgpdlaa
/- Package wheel: the order of alarms, and its sort: the contracts. -/
namespace Go.Proofs.Ytlkmdighjgpdlaa
open Go Go.Fx
def vB3 : VP := .ls [.is (.lp 1 0)]
def vW3 : VP := .ls [.is (.lp 2 0), .is (.own 3), .d (.i .u64), .d (.i .i64), .d (.i .i64), .d (.i .i64), .d (.i .i64)]
def vL3 : VP := .ls [.is (.own 1), .is (.own 2)]
def rI3 : RP := ⟨true, 3, .i .i64⟩
def vB3v : Var := ⟨true, .ls [.lp 1 0]⟩
def vW3v (now c0 c1 c2 c3 : Int) : Var := ⟨true, .ls [.lp 2 0, .own 3, u64 now, i64 c0, i64 c1, i64 c2, i64 c3]⟩
def vL3v : Var := ⟨true, .ls [.own 1, .own 2]⟩
def fxI3 (l : List Int) : Row := ⟨true, true, 3, .i .i64, .s (l.length : Int), l⟩
def conCmpW : Con := (mkCon [.d (.i .i64), .d (.i .i64), .is (.lp 0 0)] [vB3, vW3, vL3] [rI3, rL, rE, rM]
  (fun (a b now c0 c1 c2 c3 : Int) (l : List Int) (L E : List Lk) (M : List (Int × Int)) => 0 ≤ a ∧ a < M.length ∧ 0 ≤ b ∧ b < M.length) [] (constX True _)
  (fun (a b now c0 c1 c2 c3 : Int) (l : List Int) (L E : List Lk) (M : List (Int × Int)) => i64 (cfM (ix M) a b)) (constX [] _) (constX [] _)).look
def conSortW : Con := mkCon [.is (.own 0), .is (.fn 39 [.lp 0 0])] [vB3, vW3, vL3] [rI3, rL, rE, rM]
  (fun (now c0 c1 c2 c3 : Int) (l : List Int) (L E : List Lk) (M : List (Int × Int)) => l.length ≤ 4096 ∧ ∀ x ∈ l, 0 ≤ x ∧ x < M.length) [] (constX True _)
  (constX (.tup []) _) (fun (now c0 c1 c2 c3 : Int) (l : List Int) (L E : List Lk) (M : List (Int × Int)) => [vB3v, vW3v now c0 c1 c2 c3, vL3v])
  (fun (now c0 c1 c2 c3 : Int) (l : List Int) (L E : List Lk) (M : List (Int × Int)) => [fxI3 (srt (cfM (ix M)) l), fxL L, fxE E, fxM M])
theorem un1 {t : Tp} {ts : List Tp} {us : List U} (h : us.map U.t = t :: ts) : ∃ (e : t.T) (us' : List U), us = ⟨t, e⟩ :: us' ∧ us'.map U.t = ts := by
  cases us with
  | nil => simp at h
  | cons u us' =>
    obtain ⟨t', e⟩ := u
    rw [List.map_cons, List.cons.injEq] at h
    obtain ⟨h1, h2⟩ := h
    simp only at h1
    subst h1
    exact ⟨e, us', rfl, h2⟩
theorem un0 {us : List U} (h : us.map U.t = []) : us = [] := List.map_eq_nil_iff.1 h
end Go.Proofs.Ytlkmdighjgpdlaa
/- Package wheel: the order of alarms, and its sort. -/
namespace Go.Proofs.Ytlkmdighjgpdlaa
open Go Go.Fx

set_option maxRecDepth 10000 in
theorem wcmp_vc :
  ∀ x0 : Int,
  ∀ x1 : Int,
  ∀ x2 : Int,
  ∀ x3 : Int,
  ∀ x4 : Int,
  ∀ x5 : Int,
  ∀ x6 : Int,
  ∀ x7 : List Int,
  ∀ x8 : List (Int × (Int × Int)),
  ∀ x9 : List (Int × (Int × Int)),
  ∀ x10 : List (Int × Int),
  (((0 : Int) ≤ x0) ∧
    ((x0 < (↑(List.length x10) : Int)) ∧
     (((0 : Int) ≤ x1) ∧
      (x1 < (↑(List.length x10) : Int))))) →
  (((0 : Int) ≤ x1) ∧
   (x1 < (↑(List.length x10) : Int))) ∧
  ((((0 : Int) ≤ x0) ∧
    (x0 < (↑(List.length x10) : Int))) ∧
   (((True) ∧
     (True →
      (True) ∧
      (True →
       (True) ∧
       (True →
        (List.length [cmpI (Prod.fst (ix x10 x0)) (Prod.fst (ix x10 x1)), cmpI (Prod.snd (ix x10 x0)) (Prod.snd (ix x10 x1)), cmpI x0 x1] ≤ (1000000 : Nat)) ∧
        (True →
         (True) ∧
         ((orL [cmpI (Prod.fst (ix x10 x0)) (Prod.fst (ix x10 x1)), cmpI (Prod.snd (ix x10 x0)) (Prod.snd (ix x10 x1)), cmpI x0 x1] = cfM (ix x10) x0 x1) ∧
          ((x2 = x2) ∧
           ((x3 = x3) ∧
            ((x4 = x4) ∧
             ((x5 = x5) ∧
              ((x6 = x6) ∧
               ((x7 = x7) ∧
                (((↑(List.length x7) : Int) = (↑(List.length x7) : Int)) ∧
                 ((x8 = x8) ∧
                  (((↑(List.length x8) : Int) = (↑(List.length x8) : Int)) ∧
                   ((x9 = x9) ∧
                    (((↑(List.length x9) : Int) = (↑(List.length x9) : Int)) ∧
                     ((x10 = x10) ∧
                      (((↑(List.length x10) : Int) = (↑(List.length x10) : Int)) ∧
                       (True)))))))))))))))))))) ∧
    ((True) ∧
     (True →
      (True) ∧
      (True →
       (True) ∧
       (True →
        (List.length [cmpI (Prod.fst (ix x10 x0)) (Prod.fst (ix x10 x1)), cmpI (Prod.snd (ix x10 x0)) (Prod.snd (ix x10 x1)), cmpI x0 x1] ≤ (1000000 : Nat)) ∧
        (True →
         (True) ∧
         ((orL [cmpI (Prod.fst (ix x10 x0)) (Prod.fst (ix x10 x1)), cmpI (Prod.snd (ix x10 x0)) (Prod.snd (ix x10 x1)), cmpI x0 x1] = cfM (ix x10) x0 x1) ∧
          ((x2 = x2) ∧
           ((x3 = x3) ∧
            ((x4 = x4) ∧
             ((x5 = x5) ∧
              ((x6 = x6) ∧
               ((x7 = x7) ∧
                (((↑(List.length x7) : Int) = (↑(List.length x7) : Int)) ∧
                 ((x8 = x8) ∧
                  (((↑(List.length x8) : Int) = (↑(List.length x8) : Int)) ∧
                   ((x9 = x9) ∧
                    (((↑(List.length x9) : Int) = (↑(List.length x9) : Int)) ∧
                     ((x10 = x10) ∧
                      (((↑(List.length x10) : Int) = (↑(List.length x10) : Int)) ∧
                       (True)))))))))))))))))))))) := by
  intro a b now c0 c1 c2 c3 l L E M h
  simp only [gtrT, gtrF, lssT, lssF, leqT, leqF, geqT, geqF, eqlT, eqlF, neqT, neqF, true_and, and_true, true_implies, implies_true, Bool.not_eq_true', Bool.not_eq_false', bne_iff_ne, ne_eq, not_true_eq_false, not_false_eq_true, Int.toNat_natCast, same_self, reduceCtorEq, false_implies, List.nil_append]
  exact ⟨h.2.2, ⟨h.1, h.2.1⟩, ⟨by simp, rfl⟩, by simp, rfl⟩
set_option maxRecDepth 10000 in
theorem wcmp_ok : conCmpW.ok KK Try.prog 39 := by
  refine Con.of_vc ([]) ([]) TT_ok follows Try.func39 ?_ G35_ok (@toVC _ _ wcmp_vc ?_)
  · kernel_rfl
  · kernel_rfl
noncomputable def G36 : List (FuncId × Con) := (39, conCmpW) :: G35
theorem G36_ok : GOK KK Try.prog G36 := GOK.cons (Callable.of Try.func39 (by kernel_rfl) (by kernel_rfl)) wcmp_ok G35_ok
theorem wsort_ok : conSortW.ok KK Try.prog 38 := by
  refine sort_ok (ρ := YtlkmdighjgpdlaaSoR) YtlkmdighjgpdlaaSo (g := 39) (enters_of Try.func39 (by kernel_rfl) rfl) wcmp_ok (caps := [.lp 0 0]) ?_
  intro us hus hpre
  obtain ⟨now, us1, rfl, k1⟩ := un1 (t := .i .u64) hus
  obtain ⟨c0, us2, rfl, k2⟩ := un1 (t := .i .i64) k1
  obtain ⟨c1, us3, rfl, k3⟩ := un1 (t := .i .i64) k2
  obtain ⟨c2, us4, rfl, k4⟩ := un1 (t := .i .i64) k3
  obtain ⟨c3, us5, rfl, k5⟩ := un1 (t := .i .i64) k4
  obtain ⟨l, us6, rfl, k6⟩ := un1 (t := .sl (.i .i64)) k5
  obtain ⟨L, us7, rfl, k7⟩ := un1 (t := .sl tpL) k6
  obtain ⟨E, us8, rfl, k8⟩ := un1 (t := .sl tpL) k7
  obtain ⟨M, us9, rfl, k9⟩ := un1 (t := .sl tpM) k8
  obtain rfl := un0 k9
  obtain ⟨h1, h2⟩ : List.length l ≤ 4096 ∧ ∀ x ∈ l, 0 ≤ x ∧ x < (List.length M : Int) := hpre
  refine ⟨3, l, cfM (ix M), { args := rfl, row := rfl, fix := ?_, obs := rfl, ro := rfl, ro' := rfl, parts := cfM_parts _ _, short := by omega, cmp := ?_, outs := rfl, post := trivial, ret := rfl, out := rfl }⟩
  · intro r b hb
    have hb : ([⟨true, true, 3, .i .i64, .s (List.length l : Int), l⟩, fxL L, fxE E, fxM M] : List Row)[r]? = some b := hb
    match r, hb with
    | 0, hb => cases hb; exact ⟨rfl, rfl⟩
    | 1, hb => cases hb; exact ⟨rfl, rfl⟩
    | 2, hb => cases hb; exact ⟨rfl, rfl⟩
    | 3, hb => cases hb; exact ⟨rfl, rfl⟩
    | n + 4, hb => simp at hb
  · intro x hx y hy dk hdk
    exact ⟨[⟨.i .i64, x⟩, ⟨.i .i64, y⟩, ⟨.i .u64, now⟩, ⟨.i .i64, c0⟩, ⟨.i .i64, c1⟩, ⟨.i .i64, c2⟩, ⟨.i .i64, c3⟩, ⟨.sl (.i .i64), dk⟩, ⟨.sl tpL, L⟩, ⟨.sl tpL, E⟩, ⟨.sl tpM, M⟩], rfl, ⟨(h2 x hx).1, (h2 x hx).2, (h2 y hy).1, (h2 y hy).2⟩, rfl, rfl, fun os _ => rfl⟩
noncomputable def G37 : List (FuncId × Con) := (38, conSortW) :: G36
theorem G37_ok : GOK KK Try.prog G37 := GOK.cons (Callable.of Try.func38 (by kernel_rfl) (by kernel_rfl)) wsort_ok G36_ok
end Go.Proofs.Ytlkmdighjgpdlaa
/- Package wheel: what a wheel stands for; time goes on: the plain law, the contract. -/
namespace Go.Proofs.Ytlkmdighjgpdlaa
open Go Go.Fx
theorem Rep.mem_on {n m : Nat} {Q : Int → List Int} {L E : List Lk} (h : Rep n m Q L E) {k i : Int} : k ∈ Q i ↔ onC L k = (i, true) := by
  constructor
  · intro hk; exact (h.on_eq hk).1
  · intro e
    obtain ⟨j, hj⟩ := h.on_iff.1 (show (onC L k).2 = true by rw [e])
    have := (h.on_eq hj).1
    rw [e] at this
    injection this with e1
    rw [e1]; exact hj
/-- A wheel stands for the document's. -/
structure RepW (w : Wh) (now c0 c1 c2 c3 : Int) (L E : List Lk) (M : List (Int × Int)) : Prop where
  is : IsW now c0 c1 c2 c3 L E M
  nw : w.2 = now
  len : w.1.length = M.length
  str : ∀ k i, onC L k = (i, true) → strong now (ix M k).1 i
  marks : ∀ k : Int, 0 ≤ k → k < M.length → ix w.1 k = if (onC L k).2 = true then (true, ix M k) else (false, 0, 0)
section
variable {w w' : Wh} {to now c0 c1 c2 c3 : Int} {L E : List Lk} {M : List (Int × Int)} {n : Nat} {Q : Int → List Int}
theorem RepW.uniq (h : RepW w now c0 c1 c2 c3 L E M) (h' : RepW w' now c0 c1 c2 c3 L E M) : w = w' := by
  refine Prod.ext (list_ext (by rw [h.len, h'.len]) fun i h0 h1 => ?_) (by rw [h.nw, h'.nw])
  rw [h.len] at h1
  rw [h.marks i h0 h1, h'.marks i h0 h1]
theorem RepW.small (h : RepW w now c0 c1 c2 c3 L E M) : w.1.length ≤ 4096 := by
  obtain ⟨n, Q, hq, hM⟩ := h.is.q
  have := hq.rep.sn
  rw [h.len]; omega
theorem RepW.of {l : List Mk} (hq : CQ n Q c0 c1 c2 c3 L E) (hM : M.length = n) (hn : u64ok now) (hm : ∀ k : Int, 0 ≤ k → k < M.length → u64ok (ix M k).1 ∧ u64ok (ix M k).2) (hl : l.length = n) (hs : ∀ k i, k ∈ Q i → strong now (ix M k).1 i)
    (h1 : ∀ k i, k ∈ Q i → ix l k = (true, ix M k)) (h0 : ∀ k : Int, 0 ≤ k → k < n → (∀ i, k ∉ Q i) → ix l k = (false, 0, 0)) : RepW (l, now) now c0 c1 c2 c3 L E M := by
  refine ⟨⟨⟨n, Q, hq, hM⟩, hn, hm⟩, rfl, by rw [hM]; exact hl, fun k i e => hs k i (hq.rep.mem_on.2 e), fun k k0 k1 => ?_⟩
  by_cases ho : (onC L k).2 = true
  · rw [if_pos ho]
    obtain ⟨j, hj⟩ := hq.rep.on_iff.1 ho
    exact h1 k j hj
  · rw [if_neg ho]
    exact h0 k k0 (by omega) fun i hi => ho (hq.rep.on_iff.2 ⟨i, hi⟩)
theorem RepW.mem (h : RepW w now c0 c1 c2 c3 L E M) (hq : CQ n Q c0 c1 c2 c3 L E) (hM : M.length = n) :
    (∀ k i, k ∈ Q i → strong now (ix M k).1 i) ∧ (∀ k i, k ∈ Q i → ix w.1 k = (true, ix M k)) ∧ ∀ k : Int, 0 ≤ k → k < n → (∀ i, k ∉ Q i) → ix w.1 k = (false, 0, 0) := by
  refine ⟨fun k i hi => h.str k i (hq.rep.mem_on.1 hi), fun k i hi => ?_, fun k k0 k1 hk => ?_⟩
  · have := hq.rep.mem i k hi
    rw [h.marks k this.1 (by omega), hq.rep.mem_on.1 hi]; rfl
  · rw [h.marks k k0 (by omega), hq.rep.off_eq hk]; rfl
theorem cntN_empty {b : Int} (h : ∀ i, b ≤ i → i < b + 64 → Q i = []) : cntN Q b 64 = 0 := by
  have h0 := cntN_pos (Q := Q) (b := b) 64
  by_cases c : 0 < cntN Q b 64
  · obtain ⟨i, k, h1, h2, h3⟩ := cntN_mem c
    rw [h i h1 (by omega)] at h3
    cases h3
  · omega
theorem lenW_due (hq : CQ n Q c0 c1 c2 c3 L E) : lenW c0 c1 c2 c3 E = lenC E 256 ↔ ∀ k i, k ∈ Q i → i = 256 := by
  unfold lenW
  rw [hq.rep.len_eq 256, hq.rep.len_eq 257]
  have hb := hq.bound
  constructor
  · intro h k i hi
    have hc0 : c0 ≤ 0 := by omega
    have hc1 : c1 ≤ 0 := by omega
    have hc2 : c2 ≤ 0 := by omega
    have hc3 : c3 ≤ 0 := by omega
    have h7 : Q 257 = [] := List.eq_nil_of_length_eq_zero (by omega)
    have hrg : 0 ≤ i ∧ i < 258 := by
      by_cases c : i < 0 ∨ (258 : Int) ≤ i
      · have c' : i < 0 ∨ ((258 : Nat) : Int) ≤ i := by omega
        rw [hq.rep.out i c'] at hi; cases hi
      · omega
    have no : ∀ {l : List Int}, l = [] → k ∈ l → False := fun e h => by rw [e] at h; cases h
    rw [hq.e0] at hc0; rw [hq.e1] at hc1; rw [hq.e2] at hc2; rw [hq.e3] at hc3
    by_cases e : i = 256
    · exact e
    · refine (?_ : False).elim
      by_cases c7 : i = 257
      · subst c7; exact no h7 hi
      by_cases d0 : i < 64
      · exact no (cntN_zero hc0 i (by omega) (by omega)) hi
      by_cases d1 : i < 128
      · exact no (cntN_zero hc1 i (by omega) (by omega)) hi
      by_cases d2 : i < 192
      · exact no (cntN_zero hc2 i (by omega) (by omega)) hi
      · exact no (cntN_zero hc3 i (by omega) (by omega)) hi
  · intro h
    have em : ∀ i, i ≠ 256 → Q i = [] := fun i hne => List.eq_nil_iff_forall_not_mem.2 fun k hk => hne (h k i hk)
    rw [hq.e0, hq.e1, hq.e2, hq.e3, em 257 (by omega)]
    unfold cnt
    rw [cntN_empty fun i _ h1 => em i (by omega), cntN_empty fun i _ h1 => em i (by omega), cntN_empty fun i _ h1 => em i (by omega), cntN_empty fun i _ h1 => em i (by omega)]
    simp
/-- Nothing but what is due: to the time at once. -/
theorem to_skip (h : RepW w now c0 c1 c2 c3 L E M) (hto : u64ok to) (hlt : now < to) (hl : lenW c0 c1 c2 c3 E = lenC E 256) : RepW (w.1, to) to c0 c1 c2 c3 L E M := by
  obtain ⟨n, Q, hq, hM⟩ := h.is.q
  obtain ⟨h1, h2, h3⟩ := h.mem hq hM
  refine RepW.of hq hM hto h.is.marks (by rw [h.len, hM]) (fun k i hi => ?_) h2 h3
  have e := (lenW_due hq).1 hl k i hi
  subst e
  rcases h1 k 256 hi with ⟨_, q⟩ | ⟨q, _⟩ | ⟨r, hr, q, _⟩
  · exact .inl ⟨rfl, by omega⟩
  · omega
  · have := slot_range hr (ix M k).1; omega
theorem to_step {t d0 d1 d2 d3 : Int} {L' E' : List Lk} (h : RepW w now c0 c1 c2 c3 L E M) (hto : u64ok to) (hl : ¬ lenW c0 c1 c2 c3 E = lenC E 256) (hn : NextPost to now c0 c1 c2 c3 L E M t) :
    (u64ok t ∧ now < t ∧ t ≤ to) ∧ (StepPost t now c0 c1 c2 c3 L E M d0 d1 d2 d3 L' E' → RepW (w.1, t) t d0 d1 d2 d3 L' E' M) := by
  obtain ⟨n, Q, hq, hM⟩ := h.is.q
  obtain ⟨h1, h2, h3⟩ := h.mem hq hM
  have hex : ∃ k i, k ∈ Q i ∧ i ≠ 256 := by
    refine Classical.byContradiction fun c => hl ((lenW_due hq).2 fun k i hi => ?_)
    exact Classical.byContradiction fun e => c ⟨k, i, hi, e⟩
  obtain ⟨a1, a2, a3⟩ := hn n Q hq hM h1 hex
  have hnow := h.is.now
  have ht : u64ok t := ⟨by have := hnow.1; omega, by have := hto.2; omega⟩
  refine ⟨⟨ht, a1, a2⟩, fun hs => ?_⟩
  obtain ⟨Q', q1, q2, q3⟩ := hs n Q hq hM fun k i hi => ⟨h1 k i hi, a3 k i hi⟩
  refine RepW.of q1 hM ht h.is.marks (by rw [h.len, hM]) q3 (fun k i hi => ?_) fun k k0 k1 hk => ?_
  · obtain ⟨j, hj⟩ := (q2 k).1 ⟨i, hi⟩
    exact h2 k j hj
  · refine h3 k k0 k1 fun i hi => ?_
    obtain ⟨j, hj⟩ := (q2 k).2 ⟨i, hi⟩
    exact hk j hj
/-- So many of those that are due are pulled. -/
def Pulled (o : List Int) (j c0 c1 c2 c3 : Int) (L E L' E' : List Lk) : Prop :=
  0 ≤ j ∧ j ≤ o.length ∧ ∀ n Q, CQ n Q c0 c1 c2 c3 L E → ∃ Q', CQ n Q' c0 c1 c2 c3 L' E' ∧ Q' 256 = (Q 256).drop j.toNat ∧ ∀ i, i ≠ 256 → Q' i = Q i
theorem Pulled.zero {o : List Int} : Pulled o 0 c0 c1 c2 c3 L E L E := ⟨Int.le_refl _, Int.natCast_nonneg _, fun n Q h => ⟨Q, h, by simp, fun _ _ => rfl⟩⟩
theorem Pulled.next {o : List Int} {j : Int} {L1 E1 L2 E2 : List Lk} {b : Bool} (hw : ∃ n Q, CQ n Q c0 c1 c2 c3 L E) (ho : ∀ n m Q, Rep n m Q L E → o = Q 256) (h : Pulled o j c0 c1 c2 c3 L E L1 E1) (hj : j < o.length) (hp : PullPost (ix o j) L1 E1 L2 E2 b) : Pulled o (j + 1) c0 c1 c2 c3 L E L2 E2 := by
  obtain ⟨j0, j1, h⟩ := h
  refine ⟨by omega, by omega, fun n Q hq => ?_⟩
  obtain ⟨Q', q1, q2, q3⟩ := h n Q hq
  have hoQ := ho n 258 Q hq.rep
  obtain ⟨m, rfl⟩ := Int.eq_ofNat_of_zero_le j0
  have hm : m < o.length := by omega
  have hix : ix o (m : Int) = o[m] := by
    unfold ix
    rw [List.getD_eq_getElem?_getD, Int.toNat_natCast, List.getElem?_eq_getElem hm]
    rfl
  rw [Int.toNat_natCast, ← hoQ, List.drop_eq_getElem_cons hm, ← hix] at q2
  have hmem : ix o (m : Int) ∈ Q' 256 := by rw [q2]; exact List.mem_cons_self
  have hr := ((hp n 258 Q' q1.rep).1 ⟨256, hmem⟩).2
  have hc := q1.cut hmem hr
  refine ⟨cutQ Q' (ix o (m : Int)), hc, ?_, fun i hi => ?_⟩
  · show (Q' 256).filter _ = _
    have hnd := q1.rep.nd 256
    rw [q2] at hnd ⊢
    have := cut_split (a := []) hnd
    rw [List.nil_append, List.nil_append] at this
    rw [this, ← hoQ, show ((m : Int) + 1).toNat = m + 1 from by omega]
  · show (Q' i).filter _ = _
    rw [cut_none (fun c => hi (q1.rep.one _ _ _ c hmem)), q3 i hi]
theorem to_final {e : Int} {o : List Int} {L2 E2 : List Lk} (h : RepW (w.1, e) e c0 c1 c2 c3 L E M) (he : e = nowR w to) (ho : ∀ n m Q, Rep n m Q L E → o = Q 256) (hp : Pulled o o.length c0 c1 c2 c3 L E L2 E2) :
    RepW (toR w to) e c0 c1 c2 c3 L2 E2 M ∧ srt (cfM (ix M)) o = outR w to := by
  obtain ⟨n, Q, hq, hM⟩ := h.is.q
  obtain ⟨h1, h2, h3⟩ := h.mem hq hM
  obtain ⟨_, _, hp⟩ := hp
  obtain ⟨Q', q1, q2, q3⟩ := hp n Q hq
  have hoQ := ho n 258 Q hq.rep
  rw [Int.toNat_natCast, ← hoQ, List.drop_length] at q2
  have hlen : w.1.length = n := by have := h.len; simp only at this; omega
  have hdue : ∀ k, k ∈ Q 256 → (ix M k).1 ≤ e := fun k hk => by
    rcases h1 k 256 hk with ⟨_, q⟩ | ⟨q, _⟩ | ⟨r, hr, q, _⟩
    · exact q
    · omega
    · have := slot_range hr (ix M k).1; omega
  have hnot : ∀ k i, k ∈ Q i → i ≠ 256 → ¬ (ix M k).1 ≤ e := fun k i hk hi => by
    rcases h1 k i hk with ⟨q, _⟩ | ⟨_, q⟩ | ⟨r, hr, _, q, _⟩
    · exact absurd q hi
    · intro c
      exact absurd (Int.ediv_le_ediv (c := sp 4) (by decide) c) (by omega)
    · intro c
      have hsp : 0 < sp r := by
        have : r = 0 ∨ r = 1 ∨ r = 2 ∨ r = 3 := by omega
        rcases this with rfl | rfl | rfl | rfl <;> decide
      exact absurd (Int.ediv_le_ediv (c := sp r) hsp c) (by omega)
  have hmem : ∀ k, k ∈ dueN w.1 e n ↔ k ∈ Q 256 := fun k => by
    rw [dueN_mem]
    constructor
    · rintro ⟨k0, k1, hb⟩
      unfold dueB at hb
      refine Classical.byContradiction fun c => ?_
      by_cases hin : ∃ i, k ∈ Q i
      · obtain ⟨i, hi⟩ := hin
        have hi6 : i ≠ 256 := fun e => c (e ▸ hi)
        have := hnot k i hi hi6
        rw [h2 k i hi] at hb
        simp at hb
        exact this hb
      · have e0 := h3 k k0 (by omega) (fun i hi => hin ⟨i, hi⟩)
        simp only at e0
        rw [e0] at hb
        simp at hb
    · intro hk
      obtain ⟨k0, k1⟩ := hq.rep.mem 256 k hk
      have e0 := h2 k 256 hk
      simp only at e0
      refine ⟨k0, k1, ?_⟩
      unfold dueB
      rw [e0]
      simp [hdue k hk]
  constructor
  · have htoR : toR w to = (clr w.1 e, e) := by rw [he]; rfl
    have hclr : ∀ k : Int, 0 ≤ k → k < n → ix (clr w.1 e) k = clrOne e (ix w.1 k) := fun k k0 k1 => by
      obtain ⟨m, rfl⟩ := Int.eq_ofNat_of_zero_le k0
      have hm : m < w.1.length := by omega
      rw [ix_get0 hm, ix_get0 (by unfold clr; rw [List.length_map]; exact hm)]
      unfold clr
      rw [List.getElem_map]
    rw [htoR]
    refine RepW.of q1 hM h.is.now h.is.marks (by unfold clr; rw [List.length_map, hlen]) (fun k i hi => ?_) (fun k i hi => ?_) fun k k0 k1 hk => ?_
    · by_cases e6 : i = 256
      · subst e6; rw [q2] at hi; cases hi
      · rw [q3 i e6] at hi; exact h1 k i hi
    · by_cases e6 : i = 256
      · subst e6; rw [q2] at hi; cases hi
      · rw [q3 i e6] at hi
        obtain ⟨k0, k1⟩ := hq.rep.mem i k hi
        rw [hclr k k0 k1]
        have e0 := h2 k i hi
        simp only at e0
        rw [e0]
        unfold clrOne
        rw [if_neg (by simp; have := hnot k i hi e6; omega)]
    · rw [hclr k k0 k1]
      by_cases hin : ∃ i, k ∈ Q i
      · obtain ⟨i, hi⟩ := hin
        have e6 : i = 256 := by
          refine Classical.byContradiction fun e6 => hk i ?_
          rw [q3 i e6]; exact hi
        subst e6
        have e0 := h2 k 256 hi
        simp only at e0
        rw [e0]
        unfold clrOne
        rw [if_pos (by simp [hdue k hi])]
      · have e0 := h3 k k0 k1 (fun i hi => hin ⟨i, hi⟩)
        simp only at e0
        rw [e0]
        unfold clrOne
        split <;> rfl
  · have hndQ := hq.rep.nd 256
    unfold outR
    rw [← he, hlen, hoQ]
    refine srt_eq (dueN_nodup _ _ _) ((srt_perm _ _).trans ((List.perm_ext_iff_of_nodup hndQ (dueN_nodup _ _ _)).2 fun k => (hmem k).symm)) ?_
    refine (srt_pair (ix M) hndQ).imp_of_mem ?_
    intro a b ha hb hab
    have ea : mkAt w.1 a = ix M a := by have := h2 a 256 (srt_mem.1 ha); simp only at this; unfold mkAt; rw [this]
    have eb : mkAt w.1 b = ix M b := by have := h2 b 256 (srt_mem.1 hb); simp only at this; unfold mkAt; rw [this]
    unfold ltM at hab ⊢
    rw [ea, eb]
    exact hab
end
def ToPost (to now c0 c1 c2 c3 : Int) (L E : List Lk) (M : List (Int × Int)) (e d0 d1 d2 d3 : Int) (L' E' : List Lk) (o : List Int) : Prop :=
  ∀ w, RepW w now c0 c1 c2 c3 L E M → RepW (toR w to) e d0 d1 d2 d3 L' E' M ∧ o = outR w to
def conToW : Con := mkCon [.is (.lp 0 0), .d (.i .u64)] [vW, vL] [rL, rE, rM]
  (fun (to now c0 c1 c2 c3 : Int) (L E : List Lk) (M : List (Int × Int)) => u64ok to ∧ ∃ w, RepW w now c0 c1 c2 c3 L E M)
  [.i .u64, .i .i64, .i .i64, .i .i64, .i .i64, .sl tpL, .sl tpL, .sl (.i .i64)]
  (fun (to now c0 c1 c2 c3 : Int) (L E : List Lk) (M : List (Int × Int)) (e d0 d1 d2 d3 : Int) (L' E' : List Lk) (o : List Int) => ToPost to now c0 c1 c2 c3 L E M e d0 d1 d2 d3 L' E' o)
  (constX (.own 3) _) (fun (to now c0 c1 c2 c3 : Int) (L E : List Lk) (M : List (Int × Int)) (e d0 d1 d2 d3 : Int) (L' E' : List Lk) (o : List Int) => [vWv e d0 d1 d2 d3, vLv])
  (fun (to now c0 c1 c2 c3 : Int) (L E : List Lk) (M : List (Int × Int)) (e d0 d1 d2 d3 : Int) (L' E' : List Lk) (o : List Int) => [fxL L', fxE E', fxM M, mkRow 3 (.i .i64) o])
end Go.Proofs.Ytlkmdighjgpdlaa
/- Package wheel: time goes on. -/
namespace Go.Proofs.Ytlkmdighjgpdlaa
open Go Go.Fx

set_option maxRecDepth 10000 in
theorem wto_vc :
  ∀ x0 : Int,
  ∀ x1 : Int,
  ∀ x2 : Int,
  ∀ x3 : Int,
  ∀ x4 : Int,
  ∀ x5 : Int,
  ∀ x6 : List (Int × (Int × Int)),
  ∀ x7 : List (Int × (Int × Int)),
  ∀ x8 : List (Int × Int),
  ((u64ok x0) ∧
    (∃ x9 : Wh,
     RepW x9 x1 x2 x3 x4 x5 x6 x7 x8)) →
  ∃ x10 : Int → Int → Int → Int → Int → List (Int × (Int × Int)) → List (Int × (Int × Int)) → Prop,
  ∃ x11 : Int → Int → Int → Int → Int → List (Int × (Int × Int)) → List (Int × (Int × Int)) → Nat,
  (x10 x1 x2 x3 x4 x5 x6 x7) ∧
  (∀ x12 : Int,
   ∀ x13 : Int,
   ∀ x14 : Int,
   ∀ x15 : Int,
   ∀ x16 : Int,
   ∀ x17 : List (Int × (Int × Int)),
   ∀ x18 : List (Int × (Int × Int)),
   (x10 x12 x13 x14 x15 x16 x17 x18) →
   ((litCmp BinOp.lss x12 x0 = true) →
    (IsW x12 x13 x14 x15 x16 x17 x18 x8) ∧
    (True →
     (True) ∧
     (True →
      ((litCmp BinOp.eql (lenW x13 x14 x15 x16 x18) (lenC x18 (256 : Int)) = true) →
       (IsRep x17 x18) ∧
       (∀ x19 : List Int,
        (∀ x20 : Nat,
          ∀ x21 : Nat,
          ∀ x22 : Int → List Int,
          (Rep x20 x21 x22 x17 x18) →
          x19 = x22 (256 : Int)) →
        ∃ x23 : Int → List (Int × (Int × Int)) → List (Int × (Int × Int)) → Prop,
        ∃ x24 : Int → List (Int × (Int × Int)) → List (Int × (Int × Int)) → Nat,
        (x23 (0 : Int) x17 x18) ∧
        (∀ x25 : Int,
         ∀ x26 : List (Int × (Int × Int)),
         ∀ x27 : List (Int × (Int × Int)),
         (x23 x25 x26 x27) →
         ((litCmp BinOp.lss x25 (↑(List.length x19) : Int) = true) →
          (((0 : Int) ≤ x25) ∧
           (x25 < (↑(List.length x19) : Int))) ∧
          (∀ x28 : Int,
           (x28 = ix x19 x25) →
           (IsRep x26 x27) ∧
           (∀ x29 : List (Int × (Int × Int)),
            ∀ x30 : List (Int × (Int × Int)),
            ∀ x31 : Bool,
            (PullPost x28 x26 x27 x29 x30 x31) →
            ∀ x32 : Int,
            (x32 = litArith BinOp.add IntKind.i64 x25 (1 : Int)) →
            ((↑(List.length x19) : Int) = (↑(List.length x19) : Int)) ∧
            ((x0 = x0) ∧
             ((x13 = x13) ∧
              ((x14 = x14) ∧
               ((x15 = x15) ∧
                ((x16 = x16) ∧
                 ((x8 = x8) ∧
                  (((↑(List.length x8) : Int) = (↑(List.length x8) : Int)) ∧
                   ((x19 = x19) ∧
                    (((↑(List.length x19) : Int) = (↑(List.length x19) : Int)) ∧
                     ((x23 x32 x29 x30) ∧
                      (x24 x32 x29 x30 < x24 x25 x26 x27)))))))))))))) ∧
         ((litCmp BinOp.lss x25 (↑(List.length x19) : Int) = false) →
          ((List.length x19 ≤ (4096 : Nat)) ∧
           (∀ x33 : Int,
            (List.Mem x33 x19) →
            ((0 : Int) ≤ x33) ∧
            (x33 < (↑(List.length x8) : Int)))) ∧
          (True →
           ∃ x34 : Int,
           ∃ x35 : Int,
           ∃ x36 : Int,
           ∃ x37 : Int,
           ∃ x38 : Int,
           ∃ x39 : List (Int × (Int × Int)),
           ∃ x40 : List (Int × (Int × Int)),
           ∃ x41 : List Int,
           (ToPost x0 x1 x2 x3 x4 x5 x6 x7 x8 x34 x35 x36 x37 x38 x39 x40 x41) ∧
           ((x0 = x34) ∧
            ((x13 = x35) ∧
             ((x14 = x36) ∧
              ((x15 = x37) ∧
               ((x16 = x38) ∧
                ((x26 = x39) ∧
                 (((↑(List.length x26) : Int) = (↑(List.length x39) : Int)) ∧
                  ((x27 = x40) ∧
                   (((↑(List.length x27) : Int) = (↑(List.length x40) : Int)) ∧
                    ((x8 = x8) ∧
                     (((↑(List.length x8) : Int) = (↑(List.length x8) : Int)) ∧
                      (((List.mergeSort x19 fun (x y : Int) => !decide (cfM (ix x8) y x < (0 : Int))) = x41) ∧
                       (((↑(List.length (List.mergeSort x19 fun (x y : Int) => !decide (cfM (ix x8) y x < (0 : Int)))) : Int) = (↑(List.length x41) : Int)) ∧
                        (True))))))))))))))))))) ∧
      ((litCmp BinOp.eql (lenW x13 x14 x15 x16 x18) (lenC x18 (256 : Int)) = false) →
       ((IsW x12 x13 x14 x15 x16 x17 x18 x8) ∧
        ((u64ok x0) ∧
         (x12 < x0))) ∧
       (∀ x42 : Int,
        (NextPost x0 x12 x13 x14 x15 x16 x17 x18 x8 x42) →
        ((IsW x12 x13 x14 x15 x16 x17 x18 x8) ∧
         ((u64ok x42) ∧
          (x12 < x42))) ∧
        (∀ x43 : Int,
         ∀ x44 : Int,
         ∀ x45 : Int,
         ∀ x46 : Int,
         ∀ x47 : List (Int × (Int × Int)),
         ∀ x48 : List (Int × (Int × Int)),
         (StepPost x42 x12 x13 x14 x15 x16 x17 x18 x8 x43 x44 x45 x46 x47 x48) →
         (x0 = x0) ∧
         ((x8 = x8) ∧
          (((↑(List.length x8) : Int) = (↑(List.length x8) : Int)) ∧
           ((x10 x42 x43 x44 x45 x46 x47 x48) ∧
            (x11 x42 x43 x44 x45 x46 x47 x48 < x11 x12 x13 x14 x15 x16 x17 x18)))))))))) ∧
   ((litCmp BinOp.lss x12 x0 = false) →
    (IsRep x17 x18) ∧
    (∀ x49 : List Int,
     (∀ x50 : Nat,
       ∀ x51 : Nat,
       ∀ x52 : Int → List Int,
       (Rep x50 x51 x52 x17 x18) →
       x49 = x52 (256 : Int)) →
     ∃ x53 : Int → List (Int × (Int × Int)) → List (Int × (Int × Int)) → Prop,
     ∃ x54 : Int → List (Int × (Int × Int)) → List (Int × (Int × Int)) → Nat,
     (x53 (0 : Int) x17 x18) ∧
     (∀ x55 : Int,
      ∀ x56 : List (Int × (Int × Int)),
      ∀ x57 : List (Int × (Int × Int)),
      (x53 x55 x56 x57) →
      ((litCmp BinOp.lss x55 (↑(List.length x49) : Int) = true) →
       (((0 : Int) ≤ x55) ∧
        (x55 < (↑(List.length x49) : Int))) ∧
       (∀ x58 : Int,
        (x58 = ix x49 x55) →
        (IsRep x56 x57) ∧
        (∀ x59 : List (Int × (Int × Int)),
         ∀ x60 : List (Int × (Int × Int)),
         ∀ x61 : Bool,
         (PullPost x58 x56 x57 x59 x60 x61) →
         ∀ x62 : Int,
         (x62 = litArith BinOp.add IntKind.i64 x55 (1 : Int)) →
         ((↑(List.length x49) : Int) = (↑(List.length x49) : Int)) ∧
         ((x12 = x12) ∧
          ((x13 = x13) ∧
           ((x14 = x14) ∧
            ((x15 = x15) ∧
             ((x16 = x16) ∧
              ((x8 = x8) ∧
               (((↑(List.length x8) : Int) = (↑(List.length x8) : Int)) ∧
                ((x49 = x49) ∧
                 (((↑(List.length x49) : Int) = (↑(List.length x49) : Int)) ∧
                  ((x53 x62 x59 x60) ∧
                   (x54 x62 x59 x60 < x54 x55 x56 x57)))))))))))))) ∧
      ((litCmp BinOp.lss x55 (↑(List.length x49) : Int) = false) →
       ((List.length x49 ≤ (4096 : Nat)) ∧
        (∀ x63 : Int,
         (List.Mem x63 x49) →
         ((0 : Int) ≤ x63) ∧
         (x63 < (↑(List.length x8) : Int)))) ∧
       (True →
        ∃ x64 : Int,
        ∃ x65 : Int,
        ∃ x66 : Int,
        ∃ x67 : Int,
        ∃ x68 : Int,
        ∃ x69 : List (Int × (Int × Int)),
        ∃ x70 : List (Int × (Int × Int)),
        ∃ x71 : List Int,
        (ToPost x0 x1 x2 x3 x4 x5 x6 x7 x8 x64 x65 x66 x67 x68 x69 x70 x71) ∧
        ((x12 = x64) ∧
         ((x13 = x65) ∧
          ((x14 = x66) ∧
           ((x15 = x67) ∧
            ((x16 = x68) ∧
             ((x56 = x69) ∧
              (((↑(List.length x56) : Int) = (↑(List.length x69) : Int)) ∧
               ((x57 = x70) ∧
                (((↑(List.length x57) : Int) = (↑(List.length x70) : Int)) ∧
                 ((x8 = x8) ∧
                  (((↑(List.length x8) : Int) = (↑(List.length x8) : Int)) ∧
                   (((List.mergeSort x49 fun (x y : Int) => !decide (cfM (ix x8) y x < (0 : Int))) = x71) ∧
                    (((↑(List.length (List.mergeSort x49 fun (x y : Int) => !decide (cfM (ix x8) y x < (0 : Int)))) : Int) = (↑(List.length x71) : Int)) ∧
                     (True)))))))))))))))))))) := by
  rintro to now c0 c1 c2 c3 L E M ⟨hto, w, hw⟩
  simp only [gtrT, gtrF, lssT, lssF, leqT, leqF, geqT, geqF, eqlT, eqlF, neqT, neqF, true_and, and_true, true_implies, implies_true, Bool.not_eq_true', Bool.not_eq_false', bne_iff_ne, ne_eq, not_true_eq_false, not_false_eq_true, Int.toNat_natCast, same_self, reduceCtorEq, false_implies, List.nil_append]
  refine ⟨fun e d0 d1 d2 d3 L1 E1 => RepW (w.1, e) e d0 d1 d2 d3 L1 E1 M ∧ now ≤ e ∧ (e ≤ to ∨ e = now), fun e _ _ _ _ _ _ => (to - e).toNat, ⟨?_, Int.le_refl _, .inr rfl⟩, ?_⟩
  · have e : (w.1, now) = w := by rw [← hw.nw]
    rw [e]; exact hw
  rintro e d0 d1 d2 d3 L1 E1 ⟨h, h1, h2⟩
  have hnw := hw.nw
  refine ⟨fun hlt => ⟨h.is, fun hl => ?_, fun hl => ?_⟩, fun hge => ?_⟩
  · have hf := to_skip h hto hlt hl
    simp only at hf
    have he : to = nowR w to := by unfold nowR; rw [if_pos (by omega)]
    have hQ : ∃ n Q, CQ n Q d0 d1 d2 d3 L1 E1 := by obtain ⟨n, Q, q, _⟩ := hf.is.q; exact ⟨n, Q, q⟩
    refine ⟨hf.is.isRep, fun o ho => ?_⟩
    have hom : o.length ≤ 4096 ∧ ∀ x, List.Mem x o → 0 ≤ x ∧ x < (M.length : Int) := by
      obtain ⟨n, Q, q, hM⟩ := hf.is.q
      have h1 := q.rep.len_le 256
      have h2 := q.rep.sn
      rw [ho n 258 Q q.rep]
      exact ⟨by omega, fun x hx => by have := q.rep.mem 256 x hx; omega⟩
    refine ⟨fun j L2 E2 => Pulled o j d0 d1 d2 d3 L1 E1 L2 E2, fun j _ _ => ((o.length : Int) - j).toNat, .zero, ?_⟩
    rintro j L2 E2 hp
    have hp0 := hp.1
    have hp1 := hp.2.1
    refine ⟨fun hj => ⟨⟨hp0, hj⟩, ?_⟩, fun hj => ⟨hom, ?_⟩⟩
    · rintro _ rfl
      refine ⟨?_, fun L3 E3 b hpl => ?_⟩
      · obtain ⟨n, Q, q⟩ := hQ
        obtain ⟨Q', q1, _⟩ := hp.2.2 n Q q
        exact ⟨n, 258, Q', q1.rep⟩
      · rintro _ rfl
        rw [addI_ (by omega) (by omega)]
        exact ⟨hp.next hQ ho hj hpl, meas hj⟩
    · have e0 : j = o.length := by omega
      subst e0
      refine ⟨to, d0, d1, d2, d3, L2, E2, srt (cfM (ix M)) o, fun w' hw' => ?_, rfl, rfl, rfl, rfl, rfl, rfl, rfl, rfl, rfl, rfl, rfl⟩
      rw [hw'.uniq hw]
      exact to_final hf he ho hp
  · refine ⟨⟨h.is, hto, hlt⟩, fun t ht => ?_⟩
    have hs := fun e0 e1 e2 e3 L' E' => to_step (d0 := e0) (d1 := e1) (d2 := e2) (d3 := e3) (L' := L') (E' := E') h hto hl ht
    obtain ⟨⟨q1, q2, q3⟩, _⟩ := hs 0 0 0 0 [] []
    refine ⟨⟨h.is, q1, q2⟩, fun e0 e1 e2 e3 L' E' hst => ⟨⟨(hs _ _ _ _ _ _).2 hst, by omega, .inl q3⟩, ?_⟩⟩
    show (to - t).toNat < (to - e).toNat
    omega
  · have hf := h
    have he : e = nowR w to := by
      unfold nowR
      split <;> omega
    have hQ : ∃ n Q, CQ n Q d0 d1 d2 d3 L1 E1 := by obtain ⟨n, Q, q, _⟩ := hf.is.q; exact ⟨n, Q, q⟩
    refine ⟨hf.is.isRep, fun o ho => ?_⟩
    have hom : o.length ≤ 4096 ∧ ∀ x, List.Mem x o → 0 ≤ x ∧ x < (M.length : Int) := by
      obtain ⟨n, Q, q, hM⟩ := hf.is.q
      have h1 := q.rep.len_le 256
      have h2 := q.rep.sn
      rw [ho n 258 Q q.rep]
      exact ⟨by omega, fun x hx => by have := q.rep.mem 256 x hx; omega⟩
    refine ⟨fun j L2 E2 => Pulled o j d0 d1 d2 d3 L1 E1 L2 E2, fun j _ _ => ((o.length : Int) - j).toNat, .zero, ?_⟩
    rintro j L2 E2 hp
    have hp0 := hp.1
    have hp1 := hp.2.1
    refine ⟨fun hj => ⟨⟨hp0, hj⟩, ?_⟩, fun hj => ⟨hom, ?_⟩⟩
    · rintro _ rfl
      refine ⟨?_, fun L3 E3 b hpl => ?_⟩
      · obtain ⟨n, Q, q⟩ := hQ
        obtain ⟨Q', q1, _⟩ := hp.2.2 n Q q
        exact ⟨n, 258, Q', q1.rep⟩
      · rintro _ rfl
        rw [addI_ (by omega) (by omega)]
        exact ⟨hp.next hQ ho hj hpl, meas hj⟩
    · have e0 : j = o.length := by omega
      subst e0
      refine ⟨e, d0, d1, d2, d3, L2, E2, srt (cfM (ix M)) o, fun w' hw' => ?_, rfl, rfl, rfl, rfl, rfl, rfl, rfl, rfl, rfl, rfl, rfl⟩
      rw [hw'.uniq hw]
      exact to_final hf he ho hp
set_option maxRecDepth 10000 in
theorem wto_ok : conToW.ok KK Try.prog 20 := by
  refine Con.of_vc ([(0, ⟨[], [], [(0, vW)], [0, 1], []⟩), (2, ⟨[], [(38, .d (.i .i64))], [], [0, 1], []⟩)]) ([]) TT_ok follows Try.func20 ?_ G37_ok (@toVC _ _ wto_vc ?_)
  · kernel_rfl
  · kernel_rfl
noncomputable def G38 : List (FuncId × Con) := (20, conToW) :: G37
theorem G38_ok : GOK KK Try.prog G38 := GOK.cons (Callable.of Try.func20 (by kernel_rfl) (by kernel_rfl)) wto_ok G37_ok
end Go.Proofs.Ytlkmdighjgpdlaa
/- Package wheel: each call, on what the wheel stands for. -/
namespace Go.Proofs.Ytlkmdighjgpdlaa
open Go Go.Fx
section
variable {w w' : Wh} {to now c0 c1 c2 c3 d0 d1 d2 d3 : Int} {L E L' E' : List Lk} {M M' : List (Int × Int)} {n : Nat} {Q : Int → List Int}
theorem RepW.new {k : Int} (hn : u64ok now) : RepW (List.replicate (cut4096 k) (false, 0, 0), now) now 0 0 0 0 (List.replicate (cut4096 k) (-1, -1, -1)) (List.replicate 258 (-1, -1, 0)) (List.replicate (cut4096 k) (0, 0)) := by
  have hc : cut4096 k ≤ 4096 := by unfold cut4096; split <;> (try split) <;> omega
  refine RepW.of (CQ.new _ hc) (by simp) hn (fun i h0 h1 => ?_) (by simp) (fun i j h => by cases h) (fun i j h => by cases h) fun i h0 h1 _ => ix_rep h0 h1
  rw [List.length_replicate] at h1
  rw [ix_rep h0 h1]
  exact ⟨⟨by simp, by simp⟩, by simp, by simp⟩
theorem RepW.set {k at_ turn : Int} {b : Bool} (h : RepW w now c0 c1 c2 c3 L E M) (ha : u64ok at_) (ht : u64ok turn) (hp : SetPost k at_ turn now c0 c1 c2 c3 L E M d0 d1 d2 d3 L' E' M' b) :
    RepW (setR w k at_ turn).1 now d0 d1 d2 d3 L' E' M' ∧ b = (setR w k at_ turn).2 := by
  obtain ⟨n, Q, hq, hM⟩ := h.is.q
  obtain ⟨h1, h2, h3⟩ := h.mem hq hM
  have hlen := h.len
  obtain ⟨p1, p0⟩ := hp n Q hq hM
  by_cases c : 0 ≤ k ∧ k < n ∧ ∀ j, k ∉ Q j
  · obtain ⟨rfl, rfl, hq'⟩ := p1 c
    have e : setR w k at_ turn = (withR w k (true, at_, turn), true) := by
      unfold setR
      rw [if_neg]
      rintro (q | q | q)
      · omega
      · omega
      · rw [h3 k c.1 c.2.1 c.2.2] at q; cases q
    rw [e]
    refine ⟨?_, rfl⟩
    have hw : withR w k (true, at_, turn) = (w.1.set k.toNat (true, at_, turn), now) := by unfold withR; rw [h.nw]
    show RepW (withR w k (true, at_, turn)) _ _ _ _ _ _ _ _
    rw [hw]
    have hne : ∀ x i, x ∈ Q i → k ≠ x := fun x i hx e => c.2.2 i (e ▸ hx)
    refine RepW.of hq' (by rw [List.length_set]; exact hM) h.is.now (fun i i0 i1 => ?_) (by rw [List.length_set]; omega) (fun x i hx => ?_) (fun x i hx => ?_) fun x x0 x1 hx => ?_
    · rw [List.length_set] at i1
      rw [ix_set c.1 (by omega) i0]
      split
      · exact ⟨ha, ht⟩
      · exact h.is.marks i i0 i1
    · rcases mem_putQ.1 hx with hx | ⟨rfl, rfl⟩
      · rw [ix_set c.1 (by omega) (hq.rep.mem i x hx).1, if_neg (hne x i hx)]
        exact h1 x i hx
      · rw [ix_set c.1 (by omega) c.1, if_pos rfl]
        exact place_strong h.is.now.1 ha.1
    · rcases mem_putQ.1 hx with hx | ⟨rfl, rfl⟩
      · rw [ix_set c.1 (by omega) (hq.rep.mem i x hx).1, if_neg (hne x i hx), ix_set c.1 (by omega) (hq.rep.mem i x hx).1, if_neg (hne x i hx)]
        exact h2 x i hx
      · rw [ix_set c.1 (by omega) c.1, if_pos rfl, ix_set c.1 (by omega) c.1, if_pos rfl]
    · have hxk : k ≠ x := fun e => hx (placeW now at_) (mem_putQ.2 (.inr ⟨rfl, e.symm⟩))
      rw [ix_set c.1 (by omega) x0, if_neg hxk]
      exact h3 x x0 x1 fun i hi => hx i (mem_putQ.2 (.inl hi))
  · obtain ⟨rfl, rfl, rfl, rfl, rfl, rfl, rfl, rfl⟩ := p0 c
    have e : setR w k at_ turn = (w, false) := by
      unfold setR
      rw [if_pos]
      by_cases q0 : k < 0
      · exact .inl q0
      by_cases q1 : (w.1.length : Int) ≤ k
      · exact .inr (.inl q1)
      · refine .inr (.inr ?_)
        have : ∃ j, k ∈ Q j := by
          refine Classical.byContradiction fun q => c ⟨by omega, by omega, fun j hj => q ⟨j, hj⟩⟩
        obtain ⟨j, hj⟩ := this
        rw [h2 k j hj]
    rw [e]
    exact ⟨h, rfl⟩
theorem RepW.isR (h : RepW w now c0 c1 c2 c3 L E M) (hq : CQ n Q c0 c1 c2 c3 L E) (hM : M.length = n) (k : Int) : isR w k = true ↔ ∃ j, k ∈ Q j := by
  obtain ⟨h1, h2, h3⟩ := h.mem hq hM
  have hlen := h.len
  unfold Go.Proofs.Ytlkmdighjgpdlaa.isR
  constructor
  · intro e
    simp only [Bool.and_eq_true, decide_eq_true_eq] at e
    refine Classical.byContradiction fun c => ?_
    rw [h3 k e.1 (by omega) fun i hi => c ⟨i, hi⟩] at e
    cases e.2.2
  · rintro ⟨j, hj⟩
    have := hq.rep.mem j k hj
    simp only [Bool.and_eq_true, decide_eq_true_eq]
    exact ⟨this.1, by omega, by rw [h2 k j hj]⟩
theorem RepW.unset {k : Int} {b : Bool} (h : RepW w now c0 c1 c2 c3 L E M) (hp : UnsetPost k c0 c1 c2 c3 L E d0 d1 d2 d3 L' E' b) :
    RepW (unsetR w k).1 now d0 d1 d2 d3 L' E' M ∧ b = (unsetR w k).2 := by
  obtain ⟨n, Q, hq, hM⟩ := h.is.q
  obtain ⟨h1, h2, h3⟩ := h.mem hq hM
  have hlen := h.len
  obtain ⟨p1, p0⟩ := hp n Q hq
  have hi := h.isR hq hM k
  unfold unsetR
  by_cases c : ∃ j, k ∈ Q j
  · obtain ⟨rfl, hq'⟩ := p1 c
    rw [if_pos (hi.2 c)]
    refine ⟨?_, rfl⟩
    obtain ⟨j, hj⟩ := c
    obtain ⟨k0, k1⟩ := hq.rep.mem j k hj
    have hw : withR w k (false, 0, 0) = (w.1.set k.toNat (false, 0, 0), now) := by unfold withR; rw [h.nw]
    show RepW (withR w k (false, 0, 0)) _ _ _ _ _ _ _ _
    rw [hw]
    refine RepW.of hq' hM h.is.now h.is.marks (by rw [List.length_set]; omega) (fun x i hx => h1 x i (mem_cutQ.1 hx).1) (fun x i hx => ?_) fun x x0 x1 hx => ?_
    · obtain ⟨hx, hne⟩ := mem_cutQ.1 hx
      rw [ix_set k0 (by omega) (hq.rep.mem i x hx).1, if_neg (Ne.symm hne)]
      exact h2 x i hx
    · rw [ix_set k0 (by omega) x0]
      by_cases e : k = x
      · rw [if_pos e]
      · rw [if_neg e]
        exact h3 x x0 x1 fun i hi => hx i (mem_cutQ.2 ⟨hi, Ne.symm e⟩)
  · obtain ⟨rfl, rfl, rfl, rfl, rfl, rfl, rfl⟩ := p0 (fun j hj => c ⟨j, hj⟩)
    rw [if_neg (fun e => c (hi.1 e))]
    exact ⟨h, rfl⟩
def wantR (w : Wh) (k : Int) : Mk := if isR w k then ix w.1 k else (false, 0, 0)
theorem RepW.at_ (h : RepW w now c0 c1 c2 c3 L E M) (k : Int) : atC L M k = ((wantR w k).2.1, (wantR w k).2.2, (wantR w k).1) := by
  obtain ⟨n, Q, hq, hM⟩ := h.is.q
  obtain ⟨h1, h2, h3⟩ := h.mem hq hM
  have hi := h.isR hq hM k
  unfold atC wantR
  by_cases c : ∃ j, k ∈ Q j
  · rw [if_pos (hi.2 c), if_pos (hq.rep.on_iff.2 c)]
    obtain ⟨j, hj⟩ := c
    rw [h2 k j hj]
  · rw [if_neg (fun e => c (hi.1 e)), if_neg (fun e => c (hq.rep.on_iff.1 e))]
theorem scan_congr {on on' : Int → Bool} {a a' : Int → Int} : ∀ {s : Nat}, (∀ i : Nat, i < s → on i = on' i ∧ (on i = true → a i = a' i)) → scan on a s = scan on' a' s
  | 0, _ => rfl
  | s + 1, h => by
    obtain ⟨e1, e2⟩ := h s (Nat.lt_succ_self s)
    unfold scan
    rw [scan_congr (fun i hi => h i (Nat.lt_succ_of_lt hi)), ← e1]
    cases hb : on s with
    | false => simp
    | true => rw [e2 hb]
theorem RepW.first (h : RepW w now c0 c1 c2 c3 L E M) : scan (fun k => (onC L k).2) (fun k => (ix M k).1) M.length = scan (fun k => (ix w.1 k).1) (fun k => (ix w.1 k).2.1) w.1.length := by
  rw [h.len]
  refine scan_congr fun i hi => ?_
  have hm := h.marks (i : Int) (by omega) (by omega)
  constructor
  · rw [hm]; split
    · rename_i c; exact c
    · rename_i c; simpa using c
  · intro ho
    have ho : (onC L i).2 = true := ho
    rw [hm, if_pos ho]
/-- All lists, one behind the other. -/
def catQ (Q : Int → List Int) (b : Int) : Nat → List Int
  | 0 => []
  | s + 1 => catQ Q b s ++ Q (b + s)
theorem catQ_len {b : Int} : ∀ s : Nat, ((catQ Q b s).length : Int) = cntN Q b s
  | 0 => rfl
  | s + 1 => by
    simp only [catQ, cntN, List.length_append]
    rw [← catQ_len s]
    push_cast
    rfl
theorem catQ_mem {b k : Int} : ∀ {s : Nat}, k ∈ catQ Q b s ↔ ∃ i, b ≤ i ∧ i < b + s ∧ k ∈ Q i
  | 0 => by simp [catQ]; intro i h0 h1; omega
  | s + 1 => by
    simp only [catQ, List.mem_append, catQ_mem (s := s)]
    constructor
    · rintro (⟨i, h0, h1, h2⟩ | h)
      · exact ⟨i, h0, by push_cast; omega, h2⟩
      · exact ⟨b + s, by omega, by push_cast; omega, h⟩
    · rintro ⟨i, h0, h1, h2⟩
      by_cases e : i = b + s
      · rw [e] at h2; exact .inr h2
      · exact .inl ⟨i, h0, by push_cast at h1; omega, h2⟩
theorem catQ_nodup {m : Nat} (h : Rep n m Q L E) {b : Int} : ∀ s : Nat, (catQ Q b s).Nodup
  | 0 => by simp [catQ]
  | s + 1 => by
    simp only [catQ]
    refine List.nodup_append.2 ⟨catQ_nodup h s, h.nd _, fun x hx y hy e => ?_⟩
    subst e
    obtain ⟨i, h0, h1, h2⟩ := catQ_mem.1 hx
    have := h.one _ _ _ h2 hy
    omega
theorem catQ_app {b : Int} (s : Nat) : ∀ t : Nat, cntN Q b (s + t) = cntN Q b s + cntN Q (b + s) t
  | 0 => by simp [cntN]
  | t + 1 => by
    rw [← Nat.add_assoc]
    simp only [cntN]
    rw [catQ_app s t]
    push_cast
    rw [← Int.add_assoc b]
    omega
theorem RepW.len_eq (h : RepW w now c0 c1 c2 c3 L E M) : lenW c0 c1 c2 c3 E = lenR w.1 := by
  obtain ⟨n, Q, hq, hM⟩ := h.is.q
  obtain ⟨h1, h2, h3⟩ := h.mem hq hM
  have hlen := h.len
  have e : lenW c0 c1 c2 c3 E = cntN Q 0 258 := by
    unfold lenW
    rw [hq.rep.len_eq 256, hq.rep.len_eq 257, hq.e0, hq.e1, hq.e2, hq.e3]
    have a1 := catQ_app (Q := Q) (b := 0) 64 194
    have a2 := catQ_app (Q := Q) (b := 64) 64 130
    have a3 := catQ_app (Q := Q) (b := 128) 64 66
    have a4 := catQ_app (Q := Q) (b := 192) 64 2
    have a5 : cntN Q 256 2 = (Q 256).length + (Q 257).length := by simp [cntN]
    simp only [Nat.reduceAdd, Int.zero_add] at a1 a2 a3 a4
    unfold cnt
    have b0 : (64 : Int) * ((0 : Nat) : Int) = 0 := rfl
    have b1 : (64 : Int) * ((1 : Nat) : Int) = 64 := rfl
    have b2 : (64 : Int) * ((2 : Nat) : Int) = 128 := rfl
    have b3 : (64 : Int) * ((3 : Nat) : Int) = 192 := rfl
    have b4 : ((64 : Nat) : Int) = 64 := rfl
    rw [b0, b1, b2, b3, a1, b4, a2]
    have b5 : (64 : Int) + ((64 : Nat) : Int) = 128 := rfl
    have b6 : (128 : Int) + ((64 : Nat) : Int) = 192 := rfl
    have b7 : (192 : Int) + ((64 : Nat) : Int) = 256 := rfl
    rw [b5, a3, b6, a4, b7, a5]
    omega
  have hl : lenR w.1 = ((((List.range n).map fun i : Nat => (i : Int)).filter fun k => (ix w.1 k).1).length : Int) := by
    unfold lenR
    have : w.1 = (List.range n).map fun i : Nat => ix w.1 (i : Int) := by
      apply List.ext_getElem
      · simp; omega
      · intro i q1 q2
        rw [List.getElem_map, List.getElem_range, ix_get0 q1]
    conv => lhs; rw [this]
    rw [List.filter_map, List.filter_map, List.length_map, List.length_map]
    rfl
  rw [e, hl, ← catQ_len]
  refine congrArg (fun n : Nat => (n : Int)) (?_ : (catQ Q 0 258).length = _)
  refine List.Perm.length_eq ((List.perm_ext_iff_of_nodup (catQ_nodup hq.rep 258) ?_).2 fun k => ?_)
  · refine List.Pairwise.filter _ ?_
    rw [List.pairwise_map]
    exact (List.nodup_range (n := n)).imp fun h e => h (by omega)
  · rw [catQ_mem, List.mem_filter, List.mem_map]
    constructor
    · rintro ⟨i, _, _, hi⟩
      have := hq.rep.mem i k hi
      exact ⟨⟨k.toNat, by rw [List.mem_range]; omega, by omega⟩, by rw [h2 k i hi]⟩
    · rintro ⟨⟨i, hi, rfl⟩, ht⟩
      rw [List.mem_range] at hi
      have : ∃ j, (i : Int) ∈ Q j := by
        refine Classical.byContradiction fun c => ?_
        rw [h3 i (by omega) (by omega) fun j hj => c ⟨j, hj⟩] at ht
        cases ht
      obtain ⟨j, hj⟩ := this
      refine ⟨j, ?_, ?_, hj⟩
      · refine Classical.byContradiction fun c => ?_
        rw [hq.rep.out j (.inl (by omega))] at hj; cases hj
      · refine Classical.byContradiction fun c => ?_
        rw [hq.rep.out j (.inr (by omega))] at hj; cases hj
end
end Go.Proofs.Ytlkmdighjgpdlaa
/- The contracts of the laws of package wheel. -/
namespace Go.Proofs.Ytlkmdighjgpdlaa
open Go Go.Fx
def conAlive : Con := lawC [] True
def conPlays : Con := lawT [.i .i64, .i .u64, .sl tpOp, .i .i64]
def conOnce : Con := lawT [.i .u64, .sl (.i .u64), .sl (.i .u64)]
def conCuts : Con := lawT [.i .u64, .sl (.i .u64), .sl (.i .u64), .i .u64]
def conLets : Con := lawT [.i .u64, .sl (.i .u64), .sl (.i .i64), .i .u64]
def conTurns : Con := lawT [.i .u64, .sl (.i .u64), .i .u64]
def conTicks : Con := lawT [.i .u64, .sl (.i .u64)]
def conFar : Con := lawT [.i .u64, .i .u64, .sl (.i .u64)]
end Go.Proofs.Ytlkmdighjgpdlaa
/- The laws of package wheel: the document's example. -/
namespace Go.Proofs.Ytlkmdighjgpdlaa
open Go Go.Fx
theorem u64ok_of {n : Int} (h0 : 0 ≤ n) (h1 : n < 18446744073709551616) : u64ok n := ⟨h0, h1⟩
theorem outR_of {w : Wh} {to : Int} {l : List Int} (hp : l.Perm (dueN w.1 (nowR w to) w.1.length)) (hs : l.Pairwise (ltM (mkAt w.1))) : l = outR w to := srt_eq (dueN_nodup _ _ _) hp hs

set_option maxRecDepth 10000 in
theorem alive07_vc :
  True →
  (u64ok (100 : Int)) ∧
  (True →
   ((IsW (100 : Int) (0 : Int) (0 : Int) (0 : Int) (0 : Int) [((-1 : Int), (-1 : Int), (-1 : Int)), ((-1 : Int), (-1 : Int), (-1 : Int)), ((-1 : Int), (-1 : Int), (-1 : Int)), ((-1 : Int), (-1 : Int), (-1 : Int))] (List.replicate (258 : Nat) ((-1 : Int), (-1 : Int), (0 : Int))) [((0 : Int), (0 : Int)), ((0 : Int), (0 : Int)), ((0 : Int), (0 : Int)), ((0 : Int), (0 : Int))]) ∧
    ((u64ok (5000 : Int)) ∧
     (u64ok (2 : Int)))) ∧
   (∀ x0 : Int,
    ∀ x1 : Int,
    ∀ x2 : Int,
    ∀ x3 : Int,
    ∀ x4 : List (Int × (Int × Int)),
    ∀ x5 : List (Int × (Int × Int)),
    ∀ x6 : List (Int × Int),
    ∀ x7 : Bool,
    (SetPost (0 : Int) (5000 : Int) (2 : Int) (100 : Int) (0 : Int) (0 : Int) (0 : Int) (0 : Int) [((-1 : Int), (-1 : Int), (-1 : Int)), ((-1 : Int), (-1 : Int), (-1 : Int)), ((-1 : Int), (-1 : Int), (-1 : Int)), ((-1 : Int), (-1 : Int), (-1 : Int))] (List.replicate (258 : Nat) ((-1 : Int), (-1 : Int), (0 : Int))) [((0 : Int), (0 : Int)), ((0 : Int), (0 : Int)), ((0 : Int), (0 : Int)), ((0 : Int), (0 : Int))] x0 x1 x2 x3 x4 x5 x6 x7) →
    (((!x7) = true) →
     (True) ∧
     (False)) ∧
    (((!x7) = false) →
     ((IsW (100 : Int) x0 x1 x2 x3 x4 x5 x6) ∧
      ((u64ok (5000 : Int)) ∧
       (u64ok (1 : Int)))) ∧
     (∀ x8 : Int,
      ∀ x9 : Int,
      ∀ x10 : Int,
      ∀ x11 : Int,
      ∀ x12 : List (Int × (Int × Int)),
      ∀ x13 : List (Int × (Int × Int)),
      ∀ x14 : List (Int × Int),
      ∀ x15 : Bool,
      (SetPost (1 : Int) (5000 : Int) (1 : Int) (100 : Int) x0 x1 x2 x3 x4 x5 x6 x8 x9 x10 x11 x12 x13 x14 x15) →
      (((!x15) = true) →
       (True) ∧
       (False)) ∧
      (((!x15) = false) →
       ((IsW (100 : Int) x8 x9 x10 x11 x12 x13 x14) ∧
        ((u64ok (1099511627776 : Int)) ∧
         (u64ok (0 : Int)))) ∧
       (∀ x16 : Int,
        ∀ x17 : Int,
        ∀ x18 : Int,
        ∀ x19 : Int,
        ∀ x20 : List (Int × (Int × Int)),
        ∀ x21 : List (Int × (Int × Int)),
        ∀ x22 : List (Int × Int),
        ∀ x23 : Bool,
        (SetPost (2 : Int) (1099511627776 : Int) (0 : Int) (100 : Int) x8 x9 x10 x11 x12 x13 x14 x16 x17 x18 x19 x20 x21 x22 x23) →
        (((!x23) = true) →
         (True) ∧
         (False)) ∧
        (((!x23) = false) →
         ((IsW (100 : Int) x16 x17 x18 x19 x20 x21 x22) ∧
          ((u64ok (7 : Int)) ∧
           (u64ok (0 : Int)))) ∧
         (∀ x24 : Int,
          ∀ x25 : Int,
          ∀ x26 : Int,
          ∀ x27 : Int,
          ∀ x28 : List (Int × (Int × Int)),
          ∀ x29 : List (Int × (Int × Int)),
          ∀ x30 : List (Int × Int),
          ∀ x31 : Bool,
          (SetPost (2 : Int) (7 : Int) (0 : Int) (100 : Int) x16 x17 x18 x19 x20 x21 x22 x24 x25 x26 x27 x28 x29 x30 x31) →
          ((x31 = true) →
           (True) ∧
           (False)) ∧
          ((x31 = false) →
           ((IsW (100 : Int) x24 x25 x26 x27 x28 x29 x30) ∧
            ((u64ok (50 : Int)) ∧
             (u64ok (9 : Int)))) ∧
           (∀ x32 : Int,
            ∀ x33 : Int,
            ∀ x34 : Int,
            ∀ x35 : Int,
            ∀ x36 : List (Int × (Int × Int)),
            ∀ x37 : List (Int × (Int × Int)),
            ∀ x38 : List (Int × Int),
            ∀ x39 : Bool,
            (SetPost (3 : Int) (50 : Int) (9 : Int) (100 : Int) x24 x25 x26 x27 x28 x29 x30 x32 x33 x34 x35 x36 x37 x38 x39) →
            (((!x39) = true) →
             (True) ∧
             (False)) ∧
            (((!x39) = false) →
             ((u64ok (4999 : Int)) ∧
              (∃ x40 : Wh,
               RepW x40 (100 : Int) x32 x33 x34 x35 x36 x37 x38)) ∧
             (∀ x41 : Int,
              ∀ x42 : Int,
              ∀ x43 : Int,
              ∀ x44 : Int,
              ∀ x45 : Int,
              ∀ x46 : List (Int × (Int × Int)),
              ∀ x47 : List (Int × (Int × Int)),
              ∀ x48 : List Int,
              (ToPost (4999 : Int) (100 : Int) x32 x33 x34 x35 x36 x37 x38 x41 x42 x43 x44 x45 x46 x47 x48) →
              ((u64ok (5000 : Int)) ∧
               (∃ x49 : Wh,
                RepW x49 x41 x42 x43 x44 x45 x46 x47 x38)) ∧
              (∀ x50 : Int,
               ∀ x51 : Int,
               ∀ x52 : Int,
               ∀ x53 : Int,
               ∀ x54 : Int,
               ∀ x55 : List (Int × (Int × Int)),
               ∀ x56 : List (Int × (Int × Int)),
               ∀ x57 : List Int,
               (ToPost (5000 : Int) x41 x42 x43 x44 x45 x46 x47 x38 x50 x51 x52 x53 x54 x55 x56 x57) →
               (IsW x50 x51 x52 x53 x54 x55 x56 x38) ∧
               (True →
                (IsW x50 x51 x52 x53 x54 x55 x56 x38) ∧
                (True →
                 (IsW x50 x51 x52 x53 x54 x55 x56 x38) ∧
                 (∀ x58 : Int,
                  ∀ x59 : Int,
                  ∀ x60 : Int,
                  ∀ x61 : Int,
                  ∀ x62 : List (Int × (Int × Int)),
                  ∀ x63 : List (Int × (Int × Int)),
                  ∀ x64 : Bool,
                  (UnsetPost (2 : Int) x51 x52 x53 x54 x55 x56 x58 x59 x60 x61 x62 x63 x64) →
                  (List.length x48 ≤ (1000000 : Nat)) ∧
                  (True →
                   ((same x48 [(3 : Int)] = true) →
                    (List.length x57 ≤ (1000000 : Nat)) ∧
                    (True →
                     ((same x57 [(1 : Int), (0 : Int)] = true) →
                      ((Prod.snd (Prod.snd (atC x55 x38 (2 : Int))) = true) →
                       ((litCmp BinOp.eql (Prod.fst (atC x55 x38 (2 : Int))) (1099511627776 : Int) = true) →
                        ((litCmp BinOp.eql (Prod.fst (Prod.snd (atC x55 x38 (2 : Int)))) (0 : Int) = true) →
                         ((Prod.snd (scan (fun (k : Int) => Prod.snd (onC x55 k)) (fun (k : Int) => Prod.fst (ix x38 k)) (List.length x38)) = true) →
                          ((litCmp BinOp.eql (Prod.fst (scan (fun (k : Int) => Prod.snd (onC x55 k)) (fun (k : Int) => Prod.fst (ix x38 k)) (List.length x38))) (1099511627776 : Int) = true) →
                           ((x64 = true) →
                            (IsW x50 x58 x59 x60 x61 x62 x63 x38) ∧
                            (True →
                             ((litCmp BinOp.eql (lenW x58 x59 x60 x61 x63) (0 : Int) = true) →
                              (True) ∧
                              (True →
                               (True) ∧
                               ((litCmp BinOp.eql x50 (5000 : Int) = true) ∧
                                (True)))) ∧
                             ((litCmp BinOp.eql (lenW x58 x59 x60 x61 x63) (0 : Int) = false) →
                              (True) ∧
                              (False)))) ∧
                           ((x64 = false) →
                            (True) ∧
                            (False))) ∧
                          ((litCmp BinOp.eql (Prod.fst (scan (fun (k : Int) => Prod.snd (onC x55 k)) (fun (k : Int) => Prod.fst (ix x38 k)) (List.length x38))) (1099511627776 : Int) = false) →
                           (True) ∧
                           (False))) ∧
                         ((Prod.snd (scan (fun (k : Int) => Prod.snd (onC x55 k)) (fun (k : Int) => Prod.fst (ix x38 k)) (List.length x38)) = false) →
                          (True) ∧
                          (False))) ∧
                        ((litCmp BinOp.eql (Prod.fst (Prod.snd (atC x55 x38 (2 : Int)))) (0 : Int) = false) →
                         (True) ∧
                         (False))) ∧
                       ((litCmp BinOp.eql (Prod.fst (atC x55 x38 (2 : Int))) (1099511627776 : Int) = false) →
                        (True) ∧
                        (False))) ∧
                      ((Prod.snd (Prod.snd (atC x55 x38 (2 : Int))) = false) →
                       (True) ∧
                       (False))) ∧
                     ((same x57 [(1 : Int), (0 : Int)] = false) →
                      (True) ∧
                      (False)))) ∧
                   ((same x48 [(3 : Int)] = false) →
                    (True) ∧
                    (False))))))))))))))))))) := by
  intro _
  simp only [true_and, and_true, true_implies]
  have hu : ∀ n : Int, 0 ≤ n ∧ n < 18446744073709551616 → u64ok n := fun n h => h
  have h0 : RepW ([(false, 0, 0), (false, 0, 0), (false, 0, 0), (false, 0, 0)], 100) 100 0 0 0 0 [((-1 : Int), (-1 : Int), (-1 : Int)), ((-1 : Int), (-1 : Int), (-1 : Int)), ((-1 : Int), (-1 : Int), (-1 : Int)), ((-1 : Int), (-1 : Int), (-1 : Int))] (List.replicate (258 : Nat) ((-1 : Int), (-1 : Int), (0 : Int))) [((0 : Int), (0 : Int)), ((0 : Int), (0 : Int)), ((0 : Int), (0 : Int)), ((0 : Int), (0 : Int))] :=
    RepW.new (k := 4) (hu _ (by omega))
  refine ⟨hu _ (by omega), ⟨h0.is, hu _ (by omega), hu _ (by omega)⟩, ?_⟩
  intro a0 a1 a2 a3 a4 a5 a6 b hp
  obtain ⟨h1, e⟩ := h0.set (hu _ (by omega)) (hu _ (by omega)) hp
  clear h0 hp
  rw [show setR ([(false, 0, 0), (false, 0, 0), (false, 0, 0), (false, 0, 0)], 100) 0 5000 2 = (([(true, 5000, 2), (false, 0, 0), (false, 0, 0), (false, 0, 0)], 100), true) from rfl] at h1 e
  subst e
  refine ⟨fun q => by simp at q, fun _ => ⟨⟨h1.is, hu _ (by omega), hu _ (by omega)⟩, ?_⟩⟩
  intro c0 c1 c2 c3 c4 c5 c6 b hp
  obtain ⟨h2, e⟩ := h1.set (hu _ (by omega)) (hu _ (by omega)) hp
  clear h1 hp
  rw [show setR ([(true, 5000, 2), (false, 0, 0), (false, 0, 0), (false, 0, 0)], 100) 1 5000 1 = (([(true, 5000, 2), (true, 5000, 1), (false, 0, 0), (false, 0, 0)], 100), true) from rfl] at h2 e
  subst e
  refine ⟨fun q => by simp at q, fun _ => ⟨⟨h2.is, hu _ (by omega), hu _ (by omega)⟩, ?_⟩⟩
  intro d0 d1 d2 d3 d4 d5 d6 b hp
  obtain ⟨h3, e⟩ := h2.set (hu _ (by omega)) (hu _ (by omega)) hp
  clear h2 hp
  rw [show setR ([(true, 5000, 2), (true, 5000, 1), (false, 0, 0), (false, 0, 0)], 100) 2 1099511627776 0 = (([(true, 5000, 2), (true, 5000, 1), (true, 1099511627776, 0), (false, 0, 0)], 100), true) from rfl] at h3 e
  subst e
  refine ⟨fun q => by simp at q, fun _ => ⟨⟨h3.is, hu _ (by omega), hu _ (by omega)⟩, ?_⟩⟩
  intro f0 f1 f2 f3 f4 f5 f6 b hp
  obtain ⟨h4, e⟩ := h3.set (hu _ (by omega)) (hu _ (by omega)) hp
  clear h3 hp
  rw [show setR ([(true, 5000, 2), (true, 5000, 1), (true, 1099511627776, 0), (false, 0, 0)], 100) 2 7 0 = (([(true, 5000, 2), (true, 5000, 1), (true, 1099511627776, 0), (false, 0, 0)], 100), false) from rfl] at h4 e
  subst e
  refine ⟨fun q => by simp at q, fun _ => ⟨⟨h4.is, hu _ (by omega), hu _ (by omega)⟩, ?_⟩⟩
  intro g0 g1 g2 g3 g4 g5 g6 b hp
  obtain ⟨h5, e⟩ := h4.set (hu _ (by omega)) (hu _ (by omega)) hp
  clear h4 hp
  rw [show setR ([(true, 5000, 2), (true, 5000, 1), (true, 1099511627776, 0), (false, 0, 0)], 100) 3 50 9 = (([(true, 5000, 2), (true, 5000, 1), (true, 1099511627776, 0), (true, 50, 9)], 100), true) from rfl] at h5 e
  subst e
  refine ⟨fun q => by simp at q, fun _ => ⟨⟨hu _ (by omega), _, h5⟩, ?_⟩⟩
  intro i0 i1 i2 i3 i4 i5 i6 o1 hp
  obtain ⟨h6, e1⟩ := hp _ h5
  clear h5 hp
  rw [show toR ([(true, 5000, 2), (true, 5000, 1), (true, 1099511627776, 0), (true, 50, 9)], 100) 4999 = ([(true, 5000, 2), (true, 5000, 1), (true, 1099511627776, 0), (false, 0, 0)], 4999) from rfl] at h6
  rw [← outR_of (l := [3]) (by decide) (by simp)] at e1
  refine ⟨⟨hu _ (by omega), _, h6⟩, ?_⟩
  intro j0 j1 j2 j3 j4 j5 j6 o2 hp
  obtain ⟨h7, e2⟩ := hp _ h6
  clear h6 hp
  rw [show toR ([(true, 5000, 2), (true, 5000, 1), (true, 1099511627776, 0), (false, 0, 0)], 4999) 5000 = ([(false, 0, 0), (false, 0, 0), (true, 1099511627776, 0), (false, 0, 0)], 5000) from rfl] at h7
  rw [← outR_of (l := [1, 0]) (by decide) (by simp [ltM, mkAt, ix])] at e2
  refine ⟨h7.is, h7.is, h7.is, ?_⟩
  intro k0 k1 k2 k3 k4 k5 b hp
  obtain ⟨h8, e3⟩ := h7.unset hp
  clear hp
  rw [show unsetR ([(false, 0, 0), (false, 0, 0), (true, 1099511627776, 0), (false, 0, 0)], 5000) 2 = (([(false, 0, 0), (false, 0, 0), (false, 0, 0), (false, 0, 0)], 5000), true) from rfl] at h8 e3
  have hat := (h7.at_ 2).trans (show _ = ((1099511627776 : Int), (0 : Int), true) from rfl)
  have hfi := h7.first.trans (show _ = ((1099511627776 : Int), true) from rfl)
  have hle := h8.len_eq.trans (show _ = (0 : Int) from rfl)
  have hnow := h7.nw
  simp only at hnow
  subst e1 e2 e3
  rw [hat, hfi, hle]
  have q0 : litCmp BinOp.eql 1099511627776 1099511627776 = true := by decide
  have q1 : litCmp BinOp.eql 0 0 = true := by decide
  have q2 : litCmp BinOp.eql j0 5000 = true := by rw [← hnow]; decide
  simp only [same_self, true_implies, reduceCtorEq, false_implies, and_true, q0, q1, q2]
  exact ⟨by simp, by simp, h8.is⟩
set_option maxRecDepth 10000 in
theorem alive07_ok : conAlive.ok KK Try.prog 10 := by
  refine Con.of_vc ([]) ([]) TT_ok follows Try.func10 ?_ G38_ok (@toVC _ _ alive07_vc ?_)
  · kernel_rfl
  · kernel_rfl
noncomputable def G39 : List (FuncId × Con) := (10, conAlive) :: G38
theorem G39_ok : GOK KK Try.prog G39 := GOK.cons (Callable.of Try.func10 (by kernel_rfl) (by kernel_rfl)) alive07_ok G38_ok
end Go.Proofs.Ytlkmdighjgpdlaa
