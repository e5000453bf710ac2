/- Plain words for calls, and the contracts of package call. -/
import Derived.Test.YtkhbodngiodklaaKk
set_option linter.all false
namespace Go.Proofs.Ytkhbodngiodklaa
open Go Go.Fx

def nmL : Int → List UInt8
  | 0 => [111,112,101,110]
  | 1 => [116,105,109,101,114]
  | 2 => [100,117,112]
  | 3 => [100,114,111,112]
  | 4 => [97,114,109]
  | 5 => [115,116,111,112]
  | 6 => [119,104,101,110]
  | 7 => [119,97,116,99,104]
  | 8 => [117,110,119,97,116,99,104]
  | 9 => [99,111,110,100]
  | 10 => [97,99,107]
  | 11 => [117,115,101,100]
  | 12 => [110,111,119]
  | _ => []
def nm (op : Int) : ByteArray := ⟨(nmL op).toArray⟩
def ar : Int → Int | 0 => 1 | 2 => 2 | 3 => 1 | 4 => 3 | 5 => 1 | 6 => 1 | 7 => 3 | 8 => 1 | 9 => 1 | 10 => 2 | 11 => 1 | _ => 0
def kd : Int → Int | 4 => 1 | 5 => 1 | 6 => 1 | 7 => 2 | 8 => 2 | 9 => 2 | 10 => 2 | _ => 0
def rt : Int → Int | 2 => 8 | 4 => 1 | 5 => 2 | 6 => 4 | 7 => 1 | 8 => 2 | 9 => 4 | 10 => 4 | _ => 0
def isop (op : Int) : Bool := decide (0 ≤ op ∧ op < 13)
theorem isop_cases (op : Int) : (isop op = false ∧ (op < 0 ∨ 12 < op)) ∨ op = 0 ∨ op = 1 ∨ op = 2 ∨ op = 3 ∨ op = 4 ∨ op = 5 ∨ op = 6 ∨ op = 7 ∨ op = 8 ∨ op = 9 ∨ op = 10 ∨ op = 11 ∨ op = 12 := by
  by_cases h : 0 ≤ op ∧ op < 13
  · right; omega
  · left; exact ⟨by simpa [isop] using h, by omega⟩
theorem out_op {op : Int} (h : op < 0 ∨ 12 < op) : nm op = ⟨#[]⟩ ∧ ar op = 0 ∧ kd op = 0 ∧ rt op = 0 := by
  refine ⟨?_, ?_, ?_, ?_⟩
  · unfold nm nmL; split <;> first | rfl | omega
  · unfold ar; split <;> first | rfl | omega
  · unfold kd; split <;> first | rfl | omega
  · unfold rt; split <;> first | rfl | omega
theorem isop_of {op : Int} (h0 : 0 ≤ op) (h1 : op < 13) : isop op = true := by simp [isop, h0, h1]

/-! ### Calls: kind, three numbers -/
abbrev Cl := Int × Int × Int × Int
abbrev tpC : Tp := .p (.i .i64) (.p (.i .u64) (.p (.i .u64) (.i .u64)))
abbrev tpF : Tp := .p .tx (.p (.i .i64) (.p (.i .i64) (.i .i64)))
def rightC (c : Cl) : Bool := isop c.1 && (decide (0 < ar c.1) || c.2.1 == 0) && (decide (1 < ar c.1) || c.2.2.1 == 0) && (decide (2 < ar c.1) || c.2.2.2 == 0)
def inU64 (n : Int) : Prop := 0 ≤ n ∧ n < 18446744073709551616
def wfC (c : Cl) : Prop := inU64 c.2.1 ∧ inU64 c.2.2.1 ∧ inU64 c.2.2.2
/-- The byte number k of a number. -/
def byteAt (n : Int) (k : Nat) : Int := n / 256 ^ k % 256
def le8 (n : Int) : List Int := [n % 256, n / 256 % 256, n / 65536 % 256, n / 16777216 % 256, n / 4294967296 % 256, n / 1099511627776 % 256, n / 281474976710656 % 256, n / 72057594037927936 % 256]
/-- A call's bytes. -/
def callL (c : Cl) : List Int := (c.1 % 256) :: (le8 c.2.1 ++ (le8 c.2.2.1 ++ le8 c.2.2.2))
theorem callL_len (c : Cl) : (callL c).length = 25 := rfl
def bytes (l : List Int) : Prop := ∀ x ∈ l, 0 ≤ x ∧ x < 256
theorem le8_bytes (n : Int) : bytes (le8 n) := by
  intro x hx
  simp only [le8, List.mem_cons, List.not_mem_nil, or_false] at hx
  omega
theorem callL_bytes (c : Cl) : bytes (callL c) := by
  intro x hx
  simp only [callL, List.mem_cons, List.mem_append] at hx
  rcases hx with rfl | hx | hx | hx
  · omega
  · exact le8_bytes _ _ hx
  · exact le8_bytes _ _ hx
  · exact le8_bytes _ _ hx
/-- A number of eight bytes. -/
def rd (l : List Int) (k : Int) : Int := ix l k + ix l (k + 1) * 256 + ix l (k + 2) * 65536 + ix l (k + 3) * 16777216 + ix l (k + 4) * 4294967296 + ix l (k + 5) * 1099511627776 + ix l (k + 6) * 281474976710656 + ix l (k + 7) * 72057594037927936
/-- The call of bytes. -/
def rawC (l : List Int) : Cl := (ix l 0, rd l 1, rd l 9, rd l 17)
def readOK (l : List Int) : Bool := l.length == 25 && rightC (rawC l)
def readC (l : List Int) : Cl := if readOK l then rawC l else (0, 0, 0, 0)
def ofF (op : Int) : ByteArray × Int × Int × Int := (nm op, ar op, kd op, rt op)
abbrev tB : Tp := .sl (.i .u8)
def conOther : Con := fnP [.d (.i .i64)] (fun (op : Int) => 6 < op ∨ op < 0) (fun (op : Int) => .tup [.x tpF (ofF op), bb (isop op)])
def conOf : Con := fnC [.d (.i .i64)] (fun (op : Int) => .tup [.x tpF (ofF op), bb (isop op)])
def conRight : Con := fnC [.d tpC] (fun (c : Cl) => bb (rightC c))
def conBytes : Con := fnRV [.d tpC] (fun (c : Cl) => True) (fun (c : Cl) => .tup [.own 0, bb (rightC c)]) (fun (c : Cl) => [mkRow 5 (.i .u8) (if rightC c then callL c else [])])
def conRead : Con := fnP [.d tB] (fun (l : List Int) => bytes l) (fun (l : List Int) => .tup [.x tpC (readC l), bb (readOK l)])
def conPut : Con := fnR [.d (.i .u64)] (fun (n : Int) => inU64 n) (.own 0) (fun (n : Int) => [mkRowL 5 (.i .u8) 8 (le8 n)])
def conRBytes : Con := fnR [.d tpC] (fun (c : Cl) => wfC c) (.own 0) (fun (c : Cl) => [mkRowL 5 (.i .u8) 25 (callL c)])
def conGet : Con := fnP [.d tB] (fun (l : List Int) => l.length = 8 ∧ bytes l) (fun (l : List Int) => u64 (rd l 0))
noncomputable def conSame : Con := fnC [.d tB, .d tB] (fun (a b : List Int) => bb (same (mkS a) (mkS b)))
def arL : List Int := [1, 0, 2, 1, 3, 1, 1, 3, 1, 1, 2, 1, 0]
def kdL : List Int := [0, 0, 0, 0, 1, 1, 1, 2, 2, 2, 2, 0, 0]
def rtL : List Int := [0, 0, 8, 0, 1, 2, 4, 1, 2, 4, 4, 0, 0]
def nmLs : List ByteArray := [nm 0, nm 1, nm 2, nm 3, nm 4, nm 5, nm 6, nm 7, nm 8, nm 9, nm 10, nm 11, nm 12]
def conNames : Con := fnR [] True (.own 0) [mkRowL 9 .tx 13 nmLs]
def conI (l : List Int) : Con := fnR [] True (.own 0) [mkRowL 3 (.i .i64) 13 l]
def conArgs : Con := conI arL
def conKinds : Con := conI kdL
def conRights : Con := conI rtL
theorem ix_ar {op : Int} (h0 : 0 ≤ op) (h1 : op < 13) : ix arL op = ar op ∧ ix kdL op = kd op ∧ ix rtL op = rt op ∧ ix nmLs op = nm op := by
  have : op = 0 ∨ op = 1 ∨ op = 2 ∨ op = 3 ∨ op = 4 ∨ op = 5 ∨ op = 6 ∨ op = 7 ∨ op = 8 ∨ op = 9 ∨ op = 10 ∨ op = 11 ∨ op = 12 := by omega
  rcases this with rfl | rfl | rfl | rfl | rfl | rfl | rfl | rfl | rfl | rfl | rfl | rfl | rfl <;> exact ⟨rfl, rfl, rfl, rfl⟩
theorem wrapU {x : Int} (h0 : 0 ≤ x) (h1 : x < 18446744073709551616) : IntKind.wrap .u64 x = x := by
  show (if (false && decide (x % 18446744073709551616 ≥ (2 ^ 63 : Int))) = true then x % 18446744073709551616 - 18446744073709551616 else x % 18446744073709551616) = x
  rw [Bool.false_and, if_neg (by simp)]; omega
theorem wrapI64 {x : Int} (h0 : -9223372036854775808 ≤ x) (h1 : x < 9223372036854775808) : IntKind.wrap .i64 x = x := by
  show (if (true && decide (x % 18446744073709551616 ≥ 9223372036854775808)) = true then x % 18446744073709551616 - 18446744073709551616 else x % 18446744073709551616) = x
  simp only [Bool.true_and, decide_eq_true_eq]
  split <;> omega
theorem wrap8 (x : Int) : IntKind.wrap .u8 x = x % 256 := by
  show (if (false && decide (x % 256 ≥ (2 ^ 7 : Int))) = true then x % 256 - 256 else x % 256) = x % 256
  rw [Bool.false_and, if_neg (by simp)]
theorem wrapI (x : Int) (h0 : 0 ≤ x) (h1 : x < 256) : IntKind.wrap .i64 x = x := wrapI64 (by omega) (by omega)
theorem addI64 {x y : Int} (h0 : -9223372036854775808 ≤ x + y) (h1 : x + y < 9223372036854775808) : litArith .add .i64 x y = x + y := wrapI64 h0 h1
theorem quo256 {x : Int} (h0 : 0 ≤ x) (h1 : x < 18446744073709551616) : litArith .quo .u64 x 256 = x / 256 := by
  show IntKind.wrap .u64 (x.tdiv 256) = x / 256
  rw [Int.tdiv_eq_ediv_of_nonneg h0, wrapU (by omega) (by omega)]
theorem rem256 {x : Int} (h0 : 0 ≤ x) : litArith .rem .u64 x 256 = x % 256 := by
  show x.tmod 256 = x % 256
  rw [Int.tmod_eq_emod_of_nonneg h0]
theorem addU {x y : Int} (h0 : 0 ≤ x + y) (h1 : x + y < 18446744073709551616) : litArith .add .u64 x y = x + y := wrapU h0 h1
theorem mulU {x : Int} (h0 : 0 ≤ x) (h1 : x * 256 < 18446744073709551616) : litArith .mul .u64 x 256 = x * 256 := wrapU (by omega) h1
theorem or_step (acc x e M : Int) (k : Nat) (hk : k < 8) (he : e = ((8 * k : Nat) : Int)) (hM : M = ((2 ^ (8 * k) : Nat) : Int)) (h0 : 0 ≤ acc) (h1 : acc < M) (hx0 : 0 ≤ x) (hx : x < 256) : litArith .or .u64 acc (litArith .shl .u64 (IntKind.wrap .u64 x) e) = acc + x * M := by
  subst he hM
  obtain ⟨a, rfl⟩ := Int.eq_ofNat_of_zero_le h0
  obtain ⟨x, rfl⟩ := Int.eq_ofNat_of_zero_le hx0
  have hp : 2 ^ (8 * k) * 256 ≤ 2 ^ 64 := by
    rw [show (256 : Nat) = 2 ^ 8 from rfl, ← Nat.pow_add]; exact Nat.pow_le_pow_right (by omega) (by omega)
  have ha : a < 2 ^ (8 * k) := Int.ofNat_lt.1 h1
  have hx' : x < 256 := by omega
  have hb : x * 2 ^ (8 * k) + 2 ^ (8 * k) ≤ 2 ^ 64 := by
    have : (x + 1) * 2 ^ (8 * k) ≤ 256 * 2 ^ (8 * k) := Nat.mul_le_mul_right _ hx'
    rw [Nat.add_mul, Nat.one_mul] at this
    omega
  have e1 : litArith .shl .u64 (IntKind.wrap .u64 (x : Int)) ((8 * k : Nat) : Int) = ((x * 2 ^ (8 * k) : Nat) : Int) := by
    have w1 : IntKind.wrap .u64 (x : Int) = x := wrapU (by omega) (by omega)
    have hm : min (((8 * k : Nat) : Int).toNat) IntKind.u64.bits = 8 * k := by
      show min (((8 * k : Nat) : Int).toNat) 64 = 8 * k
      omega
    simp only [litArith, w1, hm]
    simp only [IntKind.wrap, IntKind.bits, IntKind.signed, Bool.false_and, Bool.false_eq_true, if_false]
    have : ((x : Int) * 2 ^ (8 * k)) = ((x * 2 ^ (8 * k) : Nat) : Int) := by push_cast; rfl
    rw [this]
    have h64 : ((2 : Int) ^ 64) = ((2 ^ 64 : Nat) : Int) := by norm_cast
    rw [h64, ← Int.natCast_emod, Nat.mod_eq_of_lt (by omega)]
  rw [e1]
  have e2 : (BitVec.ofInt 64 (a : Int) ||| BitVec.ofInt 64 ((x * 2 ^ (8 * k) : Nat) : Int)).toNat = a + x * 2 ^ (8 * k) := by
    rw [BitVec.toNat_or, BitVec.ofInt_natCast, BitVec.ofInt_natCast, BitVec.toNat_ofNat, BitVec.toNat_ofNat, Nat.mod_eq_of_lt (by omega), Nat.mod_eq_of_lt (by omega)]
    have := Nat.two_pow_add_eq_or_of_lt ha x
    rw [Nat.or_comm, Nat.mul_comm x, ← this, Nat.add_comm]
  show IntKind.wrap .u64 ((BitVec.ofInt 64 (a : Int) ||| BitVec.ofInt 64 ((x * 2 ^ (8 * k) : Nat) : Int)).toNat : Int) = _
  rw [e2, wrapU (by omega) (by omega)]
  push_cast
  rfl
theorem shr_ (n : Int) (k : Nat) (hk : k < 64) : litArith .shr .u64 n (k : Int) = n / 2 ^ k := by
  show n.fdiv (2 ^ min ((k : Int).toNat) 64) = _
  rw [show min ((k : Int).toNat) 64 = k from by omega, Int.fdiv_eq_ediv_of_nonneg _ (Int.le_of_lt (Int.pow_pos (by decide)))]
theorem shr0 (n : Int) : litArith .shr .u64 n 0 = n := by simpa using shr_ n 0 (by decide)
theorem shr8 (n : Int) : litArith .shr .u64 n 8 = n / 256 := shr_ n 8 (by decide)
theorem shr16 (n : Int) : litArith .shr .u64 n 16 = n / 65536 := shr_ n 16 (by decide)
theorem shr24 (n : Int) : litArith .shr .u64 n 24 = n / 16777216 := shr_ n 24 (by decide)
theorem shr32 (n : Int) : litArith .shr .u64 n 32 = n / 4294967296 := shr_ n 32 (by decide)
theorem shr40 (n : Int) : litArith .shr .u64 n 40 = n / 1099511627776 := shr_ n 40 (by decide)
theorem shr48 (n : Int) : litArith .shr .u64 n 48 = n / 281474976710656 := shr_ n 48 (by decide)
theorem shr56 (n : Int) : litArith .shr .u64 n 56 = n / 72057594037927936 := shr_ n 56 (by decide)
theorem or8_ (x0 x1 x2 x3 x4 x5 x6 x7 : Int) (h0 : 0 ≤ x0 ∧ x0 < 256) (h1 : 0 ≤ x1 ∧ x1 < 256) (h2 : 0 ≤ x2 ∧ x2 < 256) (h3 : 0 ≤ x3 ∧ x3 < 256) (h4 : 0 ≤ x4 ∧ x4 < 256) (h5 : 0 ≤ x5 ∧ x5 < 256) (h6 : 0 ≤ x6 ∧ x6 < 256) (h7 : 0 ≤ x7 ∧ x7 < 256) :
    litArith .or .u64 (litArith .or .u64 (litArith .or .u64 (litArith .or .u64 (litArith .or .u64 (litArith .or .u64 (litArith .or .u64 (litArith .or .u64 0 (litArith .shl .u64 (IntKind.wrap .u64 x0) 0)) (litArith .shl .u64 (IntKind.wrap .u64 x1) 8)) (litArith .shl .u64 (IntKind.wrap .u64 x2) 16)) (litArith .shl .u64 (IntKind.wrap .u64 x3) 24)) (litArith .shl .u64 (IntKind.wrap .u64 x4) 32)) (litArith .shl .u64 (IntKind.wrap .u64 x5) 40)) (litArith .shl .u64 (IntKind.wrap .u64 x6) 48)) (litArith .shl .u64 (IntKind.wrap .u64 x7) 56)
      = x0 + x1 * 256 + x2 * 65536 + x3 * 16777216 + x4 * 4294967296 + x5 * 1099511627776 + x6 * 281474976710656 + x7 * 72057594037927936 := by
  rw [or_step 0 x0 0 1 0 (by omega) rfl rfl (by omega) (by omega) h0.1 h0.2,
    or_step _ x1 8 256 1 (by omega) rfl rfl (by omega) (by omega) h1.1 h1.2,
    or_step _ x2 16 65536 2 (by omega) rfl rfl (by omega) (by omega) h2.1 h2.2,
    or_step _ x3 24 16777216 3 (by omega) rfl rfl (by omega) (by omega) h3.1 h3.2,
    or_step _ x4 32 4294967296 4 (by omega) rfl rfl (by omega) (by omega) h4.1 h4.2,
    or_step _ x5 40 1099511627776 5 (by omega) rfl rfl (by omega) (by omega) h5.1 h5.2,
    or_step _ x6 48 281474976710656 6 (by omega) rfl rfl (by omega) (by omega) h6.1 h6.2,
    or_step _ x7 56 72057594037927936 7 (by omega) rfl rfl (by omega) (by omega) h7.1 h7.2]
  omega
theorem ix_of {l : List Int} {i : Int} (h : bytes l) : 0 ≤ ix l i ∧ ix l i < 256 := by
  unfold ix
  rw [List.getD_eq_getElem?_getD]
  cases hx : l[i.toNat]? with
  | none => simp
  | some x => exact h x (List.mem_of_getElem? hx)
theorem ix_cut {α : Type} [Inhabited α] {l : List α} {n k : Nat} {j : Int} (h0 : 0 ≤ j) (h1 : j < n) : ix (List.take n (List.drop k l)) j = ix l (k + j) := by
  unfold ix
  rw [List.getD_eq_getElem?_getD, List.getD_eq_getElem?_getD, List.getElem?_take, if_pos (by omega), List.getElem?_drop, show k + j.toNat = ((k : Int) + j).toNat from by omega]
theorem ix_drop {α : Type} [Inhabited α] {l : List α} {k : Nat} {j : Int} (h0 : 0 ≤ j) : ix (List.drop k l) j = ix l (k + j) := by
  unfold ix
  rw [List.getD_eq_getElem?_getD, List.getD_eq_getElem?_getD, List.getElem?_drop, show k + j.toNat = ((k : Int) + j).toNat from by omega]
theorem rd_cut {l : List Int} {n k : Nat} (h : 8 ≤ n) : rd (List.take n (List.drop k l)) 0 = rd l k := by
  unfold rd
  rw [ix_cut (by omega) (by omega), ix_cut (by omega) (by omega), ix_cut (by omega) (by omega), ix_cut (by omega) (by omega), ix_cut (by omega) (by omega), ix_cut (by omega) (by omega), ix_cut (by omega) (by omega), ix_cut (by omega) (by omega)]
  simp
theorem or8 {l : List Int} (h : bytes l) (k : Int) :
    litArith .or .u64 (litArith .or .u64 (litArith .or .u64 (litArith .or .u64 (litArith .or .u64 (litArith .or .u64 (litArith .or .u64 (litArith .or .u64 0 (litArith .shl .u64 (IntKind.wrap .u64 (ix l k)) 0)) (litArith .shl .u64 (IntKind.wrap .u64 (ix l (k + 1))) 8)) (litArith .shl .u64 (IntKind.wrap .u64 (ix l (k + 2))) 16)) (litArith .shl .u64 (IntKind.wrap .u64 (ix l (k + 3))) 24)) (litArith .shl .u64 (IntKind.wrap .u64 (ix l (k + 4))) 32)) (litArith .shl .u64 (IntKind.wrap .u64 (ix l (k + 5))) 40)) (litArith .shl .u64 (IntKind.wrap .u64 (ix l (k + 6))) 48)) (litArith .shl .u64 (IntKind.wrap .u64 (ix l (k + 7))) 56) = rd l k :=
  or8_ _ _ _ _ _ _ _ _ (ix_of h) (ix_of h) (ix_of h) (ix_of h) (ix_of h) (ix_of h) (ix_of h) (ix_of h)
theorem rd_in {l : List Int} {k : Int} (h : bytes l) : inU64 (rd l k) := by
  have b0 := ix_of (i := k) h; have b1 := ix_of (i := k + 1) h; have b2 := ix_of (i := k + 2) h; have b3 := ix_of (i := k + 3) h
  have b4 := ix_of (i := k + 4) h; have b5 := ix_of (i := k + 5) h; have b6 := ix_of (i := k + 6) h; have b7 := ix_of (i := k + 7) h
  unfold rd inU64
  omega
end Go.Proofs.Ytkhbodngiodklaa
