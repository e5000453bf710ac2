/- Plain words for the calls' table, and the contracts of package call. -/
import Derived.Test.YtkhbodngiodklaaDtab
import Derived.Test.YtkhbodngiodklaaDyO
set_option linter.all false
namespace Go.Proofs.Ytkhbodngiodklaa
open Go Go.Dx
abbrev i64 (n : Int) : V := .i .i64 (.s n)
abbrev u64 (n : Int) : V := .i .u64 (.s n)
abbrev u8 (n : Int) : V := .i .u8 (.s n)
abbrev bb (b : Bool) : V := .b (.s b)
abbrev st (s : ByteArray) : V := .v (.string s)

def nmL : Int → List UInt8
  | 0 => [111,112,101,110]
  | 1 => [116,105,109,101,114]
  | 2 => [100,117,112]
  | 3 => [100,114,111,112]
  | 4 => [97,114,109]
  | 5 => [115,116,111,112]
  | 6 => [119,104,101,110]
  | 7 => [119,97,116,99,104]
  | 8 => [117,110,119,97,116,99,104]
  | 9 => [99,111,110,100]
  | 10 => [97,99,107]
  | 11 => [117,115,101,100]
  | 12 => [110,111,119]
  | _ => []
def nm (op : Int) : ByteArray := ⟨(nmL op).toArray⟩
def ar : Int → Int | 0 => 1 | 2 => 2 | 3 => 1 | 4 => 3 | 5 => 1 | 6 => 1 | 7 => 3 | 8 => 1 | 9 => 1 | 10 => 2 | 11 => 1 | _ => 0
def kd : Int → Int | 4 => 1 | 5 => 1 | 6 => 1 | 7 => 2 | 8 => 2 | 9 => 2 | 10 => 2 | _ => 0
def rt : Int → Int | 2 => 8 | 4 => 1 | 5 => 2 | 6 => 4 | 7 => 1 | 8 => 2 | 9 => 4 | 10 => 4 | _ => 0
def isop (op : Int) : Bool := decide (0 ≤ op ∧ op < 13)

theorem isop_cases (op : Int) : (isop op = false ∧ (op < 0 ∨ 12 < op)) ∨ op = 0 ∨ op = 1 ∨ op = 2 ∨ op = 3 ∨ op = 4 ∨ op = 5 ∨ op = 6 ∨ op = 7 ∨ op = 8 ∨ op = 9 ∨ op = 10 ∨ op = 11 ∨ op = 12 := by
  by_cases h : 0 ≤ op ∧ op < 13
  · right; omega
  · left; exact ⟨by simpa [isop] using h, by omega⟩

theorem out_op {op : Int} (h : op < 0 ∨ 12 < op) : nm op = ⟨#[]⟩ ∧ ar op = 0 ∧ kd op = 0 ∧ rt op = 0 := by
  refine ⟨?_, ?_, ?_, ?_⟩
  · unfold nm nmL; split <;> first | rfl | omega
  · unfold ar; split <;> first | rfl | omega
  · unfold kd; split <;> first | rfl | omega
  · unfold rt; split <;> first | rfl | omega

/-- A call is right. -/
def rightB (op a b c : Int) : Bool := isop op && (decide (0 < ar op) || a == 0) && (decide (1 < ar op) || b == 0) && (decide (2 < ar op) || c == 0)
def eqs (a b : ByteArray) : Bool := a.toList == b.toList
/-- The kind that a name is of. -/
def namedL (name : ByteArray) : List Int → Int × Bool
  | [] => (0, false)
  | k :: ks => if eqs (nm k) name then (k, true) else namedL name ks
def named (name : ByteArray) : Int × Bool := namedL name [0, 1, 2, 3, 4, 5, 6, 7, 8, 9, 10, 11, 12]
/-- The byte number k of a number. -/
def byteAt (n : Int) (k : Nat) : Int := n / 256 ^ k % 256
def le8 (n : Int) : List Int := (List.range 8).map (byteAt n)
/-- A right call's bytes. -/
def callL (op a b c : Int) : List Int := (op % 256) :: (le8 a ++ (le8 b ++ le8 c))


abbrev shC : Sh := .agg [.i .i64, .i .u64, .i .u64, .i .u64]
/-- A function of what comes in. -/
def fnC (args : List Sh) (ret : List U → V) : Con := ⟨args, fun _ => True, [], fun _ _ => True, fun us _ => ret us, fun _ _ => []⟩
def fnP (args : List Sh) (pre : List U → Prop) (ret : List U → V) : Con := ⟨args, pre, [], fun _ _ => True, fun us _ => ret us, fun _ _ => []⟩
def fnR (args : List Sh) (pre : List U → Prop) (ret : List U → V) (rows : List U → List Row) : Con := ⟨args, pre, [], fun _ _ => True, fun us _ => ret us, fun us _ => rows us⟩
def ofV (op : Int) : V := .tup [.agg [st (nm op), i64 (ar op), i64 (kd op), i64 (rt op)], bb (isop op)]
def conOther : Con := fnP [.i .i64] (fun us => match us with | [.i op] => 6 < op ∨ op < 0 | _ => False) (fun us => match us with | [.i op] => ofV op | _ => .junk)
def conOf : Con := fnC [.i .i64] (fun us => match us with | [.i op] => ofV op | _ => .junk)
def conRight : Con := fnC [shC] (fun us => match us with | [.i op, .i a, .i b, .i c] => bb (rightB op a b c) | _ => .junk)
def conNamed : Con := fnC [.s] (fun us => match us with | [.s name] => .tup [i64 (named name).1, bb (named name).2] | _ => .junk)
def rowU (n : Int) (f : Nat → Int) : Row := ⟨true, 5, 1, .s n, .cols [.f (.i .u8 f)]⟩
def rowL (n : Int) (f : Nat → Int) : Row := ⟨true, 5, 1, .l n, .cols [.f (.i .u8 f)]⟩
def callN (op a b c : Int) : Int := if rightB op a b c then 25 else 0
def callF (op a b c : Int) (i : Nat) : Int := (callL op a b c).getD i 0
def conBytes : Con := fnR [shC] (fun _ => True) (fun us => match us with | [.i op, .i a, .i b, .i c] => .tup [.own 0, bb (rightB op a b c)] | _ => .junk)
  (fun us => match us with | [.i op, .i a, .i b, .i c] => [rowU (callN op a b c) (callF op a b c)] | _ => [])
def u8s (n : Int) (f : Nat → Int) : Prop := ∀ i : Nat, (i : Int) < n → 0 ≤ f i ∧ f i < 256
/-- A number of eight bytes. -/
def rd (f : Nat → Int) (k : Nat) : Int := f k + f (k + 1) * 256 + f (k + 2) * 65536 + f (k + 3) * 16777216 + f (k + 4) * 4294967296 + f (k + 5) * 1099511627776 + f (k + 6) * 281474976710656 + f (k + 7) * 72057594037927936
/-- The call of bytes. -/
def readOK (n : Int) (f : Nat → Int) : Bool := n == 25 && rightB (f 0) (rd f 1) (rd f 9) (rd f 17)
def readI (n : Int) (f : Nat → Int) (x : Int) : Int := if readOK n f then x else 0
def readV (n : Int) (f : Nat → Int) : V := .tup [.agg [i64 (readI n f (f 0)), u64 (readI n f (rd f 1)), u64 (readI n f (rd f 9)), u64 (readI n f (rd f 17))], bb (readOK n f)]
abbrev shB : Sh := .ro [.f (.i .u8)]
def conRead : Con := fnP [shB] (fun us => match us with | [.i n, .ci f] => u8s n f | _ => False) (fun us => match us with | [.i n, .ci f] => readV n f | _ => .junk)
def nmN (i : Nat) : ByteArray := nm i
def arN (i : Nat) : Int := ar i
def kdN (i : Nat) : Int := kd i
def rtN (i : Nat) : Int := rt i
def conNames : Con := fnR [] (fun _ => True) (fun _ => .own 0) (fun _ => [⟨true, 9, 1, .l 13, .cols [.f (.s nmN)]⟩])
def conI (f : Nat → Int) : Con := fnR [] (fun _ => True) (fun _ => .own 0) (fun _ => [⟨true, 3, 1, .l 13, .cols [.f (.i .i64 f)]⟩])
def conArgs : Con := conI arN
def conKinds : Con := conI kdN
def conRights : Con := conI rtN
theorem or_step (acc x e M : Int) (k : Nat) (hk : k < 8) (he : e = ((8 * k : Nat) : Int)) (hM : M = ((2 ^ (8 * k) : Nat) : Int)) (h0 : 0 ≤ acc) (h1 : acc < M) (hx0 : 0 ≤ x) (hx : x < 256) : litArith .or .u64 acc (litArith .shl .u64 (IntKind.wrap .u64 x) e) = acc + x * M := by
  subst he hM
  obtain ⟨a, rfl⟩ := Int.eq_ofNat_of_zero_le h0
  obtain ⟨x, rfl⟩ := Int.eq_ofNat_of_zero_le hx0
  have hp : 2 ^ (8 * k) * 256 ≤ 2 ^ 64 := by
    rw [show (256 : Nat) = 2 ^ 8 from rfl, ← Nat.pow_add]; exact Nat.pow_le_pow_right (by omega) (by omega)
  have ha : a < 2 ^ (8 * k) := Int.ofNat_lt.1 h1
  have hx' : x < 256 := by omega
  have hb : x * 2 ^ (8 * k) + 2 ^ (8 * k) ≤ 2 ^ 64 := by
    have : (x + 1) * 2 ^ (8 * k) ≤ 256 * 2 ^ (8 * k) := Nat.mul_le_mul_right _ hx'
    rw [Nat.add_mul, Nat.one_mul] at this
    omega
  have e1 : litArith .shl .u64 (IntKind.wrap .u64 (x : Int)) ((8 * k : Nat) : Int) = ((x * 2 ^ (8 * k) : Nat) : Int) := by
    have w1 : IntKind.wrap .u64 (x : Int) = x := by
      show (if (false && decide ((x : Int) % 18446744073709551616 ≥ (2 ^ 63 : Int))) = true then (x : Int) % 18446744073709551616 - 18446744073709551616 else (x : Int) % 18446744073709551616) = x
      rw [Bool.false_and, if_neg (by simp)]; omega
    have hm : min (((8 * k : Nat) : Int).toNat) IntKind.u64.bits = 8 * k := by
      show min (((8 * k : Nat) : Int).toNat) 64 = 8 * k
      omega
    simp only [litArith, w1, hm]
    simp only [IntKind.wrap, IntKind.bits, IntKind.signed, Bool.false_and, Bool.false_eq_true, if_false]
    have : ((x : Int) * 2 ^ (8 * k)) = ((x * 2 ^ (8 * k) : Nat) : Int) := by push_cast; rfl
    rw [this]
    have h64 : ((2 : Int) ^ 64) = ((2 ^ 64 : Nat) : Int) := by norm_cast
    rw [h64, ← Int.natCast_emod, Nat.mod_eq_of_lt (by omega)]
  rw [e1]
  have e2 : (BitVec.ofInt 64 (a : Int) ||| BitVec.ofInt 64 ((x * 2 ^ (8 * k) : Nat) : Int)).toNat = a + x * 2 ^ (8 * k) := by
    rw [BitVec.toNat_or, BitVec.ofInt_natCast, BitVec.ofInt_natCast, BitVec.toNat_ofNat, BitVec.toNat_ofNat, Nat.mod_eq_of_lt (by omega), Nat.mod_eq_of_lt (by omega)]
    have := Nat.two_pow_add_eq_or_of_lt ha x
    rw [Nat.or_comm, Nat.mul_comm x, ← this, Nat.add_comm]
  show IntKind.wrap .u64 ((BitVec.ofInt 64 (a : Int) ||| BitVec.ofInt 64 ((x * 2 ^ (8 * k) : Nat) : Int)).toNat : Int) = _
  rw [e2]
  simp only [IntKind.wrap, IntKind.bits, IntKind.signed, Bool.false_and, Bool.false_eq_true, if_false]
  have h64 : ((2 : Int) ^ 64) = ((2 ^ 64 : Nat) : Int) := by norm_cast
  rw [h64, ← Int.natCast_emod, Nat.mod_eq_of_lt (by omega)]
  push_cast
  rfl
theorem or8 (x0 x1 x2 x3 x4 x5 x6 x7 : Int) (h0 : 0 ≤ x0 ∧ x0 < 256) (h1 : 0 ≤ x1 ∧ x1 < 256) (h2 : 0 ≤ x2 ∧ x2 < 256) (h3 : 0 ≤ x3 ∧ x3 < 256) (h4 : 0 ≤ x4 ∧ x4 < 256) (h5 : 0 ≤ x5 ∧ x5 < 256) (h6 : 0 ≤ x6 ∧ x6 < 256) (h7 : 0 ≤ x7 ∧ x7 < 256) :
    litArith .or .u64 (litArith .or .u64 (litArith .or .u64 (litArith .or .u64 (litArith .or .u64 (litArith .or .u64 (litArith .or .u64 (litArith .or .u64 0 (litArith .shl .u64 (IntKind.wrap .u64 x0) 0)) (litArith .shl .u64 (IntKind.wrap .u64 x1) 8)) (litArith .shl .u64 (IntKind.wrap .u64 x2) 16)) (litArith .shl .u64 (IntKind.wrap .u64 x3) 24)) (litArith .shl .u64 (IntKind.wrap .u64 x4) 32)) (litArith .shl .u64 (IntKind.wrap .u64 x5) 40)) (litArith .shl .u64 (IntKind.wrap .u64 x6) 48)) (litArith .shl .u64 (IntKind.wrap .u64 x7) 56)
      = x0 + x1 * 256 + x2 * 65536 + x3 * 16777216 + x4 * 4294967296 + x5 * 1099511627776 + x6 * 281474976710656 + x7 * 72057594037927936 := by
  rw [or_step 0 x0 0 1 0 (by omega) rfl rfl (by omega) (by omega) h0.1 h0.2,
    or_step _ x1 8 256 1 (by omega) rfl rfl (by omega) (by omega) h1.1 h1.2,
    or_step _ x2 16 65536 2 (by omega) rfl rfl (by omega) (by omega) h2.1 h2.2,
    or_step _ x3 24 16777216 3 (by omega) rfl rfl (by omega) (by omega) h3.1 h3.2,
    or_step _ x4 32 4294967296 4 (by omega) rfl rfl (by omega) (by omega) h4.1 h4.2,
    or_step _ x5 40 1099511627776 5 (by omega) rfl rfl (by omega) (by omega) h5.1 h5.2,
    or_step _ x6 48 281474976710656 6 (by omega) rfl rfl (by omega) (by omega) h6.1 h6.2,
    or_step _ x7 56 72057594037927936 7 (by omega) rfl rfl (by omega) (by omega) h7.1 h7.2]
  omega
theorem wrapI (x : Int) (h0 : 0 ≤ x) (h1 : x < 256) : IntKind.wrap .i64 x = x := by
  have h64 : x % (2 ^ IntKind.i64.bits : Int) = x := Int.emod_eq_of_lt h0 (Int.lt_trans h1 (by decide))
  have hs : ¬ (x ≥ (2 ^ (IntKind.i64.bits - 1) : Int)) := by
    have : (256 : Int) ≤ 2 ^ (IntKind.i64.bits - 1) := by decide
    omega
  simp only [IntKind.wrap, h64]
  rw [if_neg (by simpa using fun _ => hs)]
theorem or8f (f : Nat → Int) (k : Nat) (hf : ∀ i, k ≤ i → i < k + 8 → 0 ≤ f i ∧ f i < 256) :
    litArith .or .u64 (litArith .or .u64 (litArith .or .u64 (litArith .or .u64 (litArith .or .u64 (litArith .or .u64 (litArith .or .u64 (litArith .or .u64 0 (litArith .shl .u64 (IntKind.wrap .u64 (f k)) 0)) (litArith .shl .u64 (IntKind.wrap .u64 (f (k + 1))) 8)) (litArith .shl .u64 (IntKind.wrap .u64 (f (k + 2))) 16)) (litArith .shl .u64 (IntKind.wrap .u64 (f (k + 3))) 24)) (litArith .shl .u64 (IntKind.wrap .u64 (f (k + 4))) 32)) (litArith .shl .u64 (IntKind.wrap .u64 (f (k + 5))) 40)) (litArith .shl .u64 (IntKind.wrap .u64 (f (k + 6))) 48)) (litArith .shl .u64 (IntKind.wrap .u64 (f (k + 7))) 56) = rd f k :=
  or8 _ _ _ _ _ _ _ _ (hf k (by omega) (by omega)) (hf _ (by omega) (by omega)) (hf _ (by omega) (by omega)) (hf _ (by omega) (by omega)) (hf _ (by omega) (by omega)) (hf _ (by omega) (by omega)) (hf _ (by omega) (by omega)) (hf _ (by omega) (by omega))
/-- The last of the first kinds that has a name, or -1. -/
def atI (name : ByteArray) : Nat → Int
  | 0 => -1
  | k + 1 => if eqs (nm k) name then (k : Int) else atI name k
theorem eqs_iff {a b : ByteArray} : eqs a b = true ↔ a.toList = b.toList := by simp [eqs]
theorem at_named (name : ByteArray) : (named name).2 = decide (0 ≤ atI name 13) ∧ (named name).1 = max (atI name 13) 0 := by
  have key : ∀ j : Nat, j < 13 → eqs (nm j) name = true → (named name).2 = decide (0 ≤ atI name 13) ∧ (named name).1 = max (atI name 13) 0 := by
    intro j hj h
    have e : name.toList = (nm j).toList := (eqs_iff.1 h).symm
    have hj' : j = 0 ∨ j = 1 ∨ j = 2 ∨ j = 3 ∨ j = 4 ∨ j = 5 ∨ j = 6 ∨ j = 7 ∨ j = 8 ∨ j = 9 ∨ j = 10 ∨ j = 11 ∨ j = 12 := by omega
    rcases hj' with rfl | rfl | rfl | rfl | rfl | rfl | rfl | rfl | rfl | rfl | rfl | rfl | rfl <;> (simp [nm, nmL] at e; simp [named, namedL, atI, eqs, nm, nmL, e] <;> decide)
  by_cases h : ∃ j : Nat, j < 13 ∧ eqs (nm j) name = true
  · obtain ⟨j, hj, h⟩ := h
    exact key j hj h
  · have hn : ∀ j : Nat, j < 13 → eqs (nm j) name = false := fun j hj => by
      cases hq : eqs (nm j) name with
      | false => rfl
      | true => exact absurd ⟨j, hj, hq⟩ h
    have q0 : eqs (nm 0) name = false := hn 0 (by omega); have q1 : eqs (nm 1) name = false := hn 1 (by omega); have q2 : eqs (nm 2) name = false := hn 2 (by omega); have q3 : eqs (nm 3) name = false := hn 3 (by omega); have q4 : eqs (nm 4) name = false := hn 4 (by omega); have q5 : eqs (nm 5) name = false := hn 5 (by omega); have q6 : eqs (nm 6) name = false := hn 6 (by omega)
    have q7 : eqs (nm 7) name = false := hn 7 (by omega); have q8 : eqs (nm 8) name = false := hn 8 (by omega); have q9 : eqs (nm 9) name = false := hn 9 (by omega); have q10 : eqs (nm 10) name = false := hn 10 (by omega); have q11 : eqs (nm 11) name = false := hn 11 (by omega); have q12 : eqs (nm 12) name = false := hn 12 (by omega)
    simp [named, namedL, atI, q0, q1, q2, q3, q4, q5, q6, q7, q8, q9, q10, q11, q12]
    decide

theorem isop_of {op : Int} (h0 : 0 ≤ op) (h1 : op < 13) : isop op = true := by simp [isop, h0, h1]

def inU64 (n : Int) : Prop := 0 ≤ n ∧ n < 18446744073709551616
def conPut : Con := fnR [.i .u64] (fun us => match us with | [.i n] => inU64 n | _ => False) (fun _ => .own 0) (fun us => match us with | [.i n] => [rowL 8 (byteAt n)] | _ => [])
def conRBytes : Con := fnR [shC] (fun us => match us with | [.i _, .i a, .i b, .i c] => inU64 a ∧ inU64 b ∧ inU64 c | _ => False) (fun _ => .own 0)
  (fun us => match us with | [.i op, .i a, .i b, .i c] => [rowL 25 (callF op a b c)] | _ => [])
def conGet : Con := fnP [shB] (fun us => match us with | [.i n, .ci f] => n = 8 ∧ u8s n f | _ => False) (fun us => match us with | [.i _, .ci f] => u64 (rd f 0) | _ => .junk)
def sameB (n : Int) (f : Nat → Int) (m : Int) (g : Nat → Int) : Bool := seqS (mkS n.toNat f) (mkS m.toNat g)
def conSame : Con := fnC [shB, shB] (fun us => match us with | [.i n, .ci f, .i m, .ci g] => bb (sameB n f m g) | _ => .junk)
def conAlive : Con := lawC [] (fun _ => True)
def conForms : Con := lawC [shC, .s] (fun _ => True)
def conReads : Con := lawC [shC, shB] (fun us => match us with | [.i _, .i a, .i b, .i c, .i n, .ci f] => inU64 a ∧ inU64 b ∧ inU64 c ∧ u8s n f | _ => False)
def conBack : Con := conReads
def conCNames : Con := lawC [.i .i64, .i .i64, .i .u64, .i .u64, .i .u64] (fun _ => True)
end Go.Proofs.Ytkhbodngiodklaa
