/- Kinds of objects: none here. -/
import Derived.Test.YtkhbodngiodklaaFtab
set_option linter.all false
namespace Go.Proofs.Ytkhbodngiodklaa
open Go Go.Fx
def KK : Nat → Kn := fun _ => ⟨.bo, .d .bo, [], [], [], fun _ => True, fun _ => false⟩
theorem gtrT {a b : Int} : (litCmp .gtr a b = true) = (b < a) := by simp [litCmp]
theorem gtrF {a b : Int} : (litCmp .gtr a b = false) = (a ≤ b) := by simp [litCmp]
theorem lssT {a b : Int} : (litCmp .lss a b = true) = (a < b) := by simp [litCmp]
theorem lssF {a b : Int} : (litCmp .lss a b = false) = (b ≤ a) := by simp [litCmp]
theorem leqT {a b : Int} : (litCmp .leq a b = true) = (a ≤ b) := by simp [litCmp]
theorem leqF {a b : Int} : (litCmp .leq a b = false) = (b < a) := by simp [litCmp]
theorem geqT {a b : Int} : (litCmp .geq a b = true) = (b ≤ a) := by simp [litCmp]
theorem geqF {a b : Int} : (litCmp .geq a b = false) = (a < b) := by simp [litCmp]
theorem eqlT {a b : Int} : (litCmp .eql a b = true) = (a = b) := by simp [litCmp]
theorem eqlF {a b : Int} : (litCmp .eql a b = false) = (a ≠ b) := by simp [litCmp]
theorem neqT {a b : Int} : (litCmp .neq a b = true) = (a ≠ b) := by simp [litCmp]
theorem neqF {a b : Int} : (litCmp .neq a b = false) = (a = b) := by simp [litCmp]
theorem wrapI_ {x : Int} (h0 : -9223372036854775808 ≤ x) (h1 : x < 9223372036854775808) : IntKind.wrap .i64 x = x := by
  show (if (true && decide (x % 18446744073709551616 ≥ 9223372036854775808)) = true then x % 18446744073709551616 - 18446744073709551616 else x % 18446744073709551616) = x
  simp only [Bool.true_and, decide_eq_true_eq]
  split <;> omega
theorem addI_ {x y : Int} (h0 : -9223372036854775808 ≤ x + y) (h1 : x + y < 9223372036854775808) : litArith .add .i64 x y = x + y := wrapI_ h0 h1
theorem subI_ {x y : Int} (h0 : -9223372036854775808 ≤ x - y) (h1 : x - y < 9223372036854775808) : litArith .sub .i64 x y = x - y := wrapI_ h0 h1
theorem mulI_ {x y : Int} (h0 : -9223372036854775808 ≤ x * y) (h1 : x * y < 9223372036854775808) : litArith .mul .i64 x y = x * y := wrapI_ h0 h1
theorem meas {N i : Int} (h : i < N) : (N - (i + 1)).toNat < (N - i).toNat := by omega
theorem wrapU_ {x : Int} (h0 : 0 ≤ x) (h1 : x < 18446744073709551616) : IntKind.wrap .u64 x = x := by
  show (if (false && decide (x % 18446744073709551616 ≥ (2 ^ 63 : Int))) = true then x % 18446744073709551616 - 18446744073709551616 else x % 18446744073709551616) = x
  rw [Bool.false_and, if_neg (by simp)]; omega
theorem addU_ {x y : Int} (h0 : 0 ≤ x + y) (h1 : x + y < 18446744073709551616) : litArith .add .u64 x y = x + y := wrapU_ h0 h1
theorem subU_ {x y : Int} (h0 : 0 ≤ x - y) (h1 : x - y < 18446744073709551616) : litArith .sub .u64 x y = x - y := wrapU_ h0 h1
theorem shrU_ (x : Int) (k : Nat) (hk : k < 64) : litArith .shr .u64 x (k : Int) = x / 2 ^ k := by
  show x.fdiv (2 ^ min ((k : Int).toNat) 64) = _
  rw [show min ((k : Int).toNat) 64 = k from by omega, Int.fdiv_eq_ediv_of_nonneg _ (Int.le_of_lt (Int.pow_pos (by decide)))]
theorem and63_ {x : Int} (h0 : 0 ≤ x) (h1 : x < 18446744073709551616) : litArith .and .u64 x 63 = x % 64 := by
  obtain ⟨n, rfl⟩ := Int.eq_ofNat_of_zero_le h0
  have e : (BitVec.ofInt 64 (n : Int) &&& BitVec.ofInt 64 ((63 : Nat) : Int)).toNat = n % 64 := by
    rw [BitVec.toNat_and, BitVec.ofInt_natCast, BitVec.ofInt_natCast, BitVec.toNat_ofNat, BitVec.toNat_ofNat, Nat.mod_eq_of_lt (by omega), Nat.mod_eq_of_lt (by omega)]
    exact Nat.and_two_pow_sub_one_eq_mod n 6
  show IntKind.wrap .u64 ((BitVec.ofInt 64 (n : Int) &&& BitVec.ofInt 64 ((63 : Nat) : Int)).toNat : Int) = _
  rw [e, wrapU_ (by omega) (by omega)]
  omega
theorem quo64_ {x : Int} (h0 : 0 ≤ x) (h1 : x < 9223372036854775808) : litArith .quo .i64 x 64 = x / 64 := by
  show IntKind.wrap .i64 (x.tdiv 64) = x / 64
  rw [Int.tdiv_eq_ediv_of_nonneg h0, wrapI_ (by omega) (by omega)]
end Go.Proofs.Ytkhbodngiodklaa
