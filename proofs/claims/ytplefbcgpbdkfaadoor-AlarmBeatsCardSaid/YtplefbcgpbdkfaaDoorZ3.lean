/- The kinds of whole objects; the table of what was proved under none. -/
import Derived.Test.YtplefbcgpbdkfaaDoorZ2
import Derived.Test.YtplefbcgpbdkfaaDoorF4
import Derived.Test.YtplefbcgpbdkfaaDoorTz
import Derived.Shelf.Spec.TrailingZeros
set_option linter.all false
namespace Go.Proofs.YtplefbcgpbdkfaaDoor
open Go Go.Fx
-- ENV: KN

/-! ### bits.Set -/
def nt (b : List Bool) : Int := (((b.filter id).length : Nat) : Int)
/-- The bit of a number in a row of words. -/
def bitW (ws : List Int) (i : Int) : Bool := ((ix ws (i / 64)).toNat).testBit (i % 64).toNat
structure SetR (l : List Bool) (size count : Int) (ws : List Int) : Prop where
  size : size = l.length
  le : l.length ≤ 4096
  count : count = nt l
  words : (ws.length : Int) = (l.length + 63) / 64
  u64 : ∀ j : Int, 0 ≤ j → j < ws.length → 0 ≤ ix ws j ∧ ix ws j < 18446744073709551616
  bits : ∀ i : Int, 0 ≤ i → i < l.length → bitW ws i = ix l i
def vS : VP := .ls [.is (.own 0), .d (.i .i64), .d (.i .i64)]
def rWd : RP := ⟨true, 22, .i .u64⟩
def kSet : Kn := ⟨.sl .bo, .is (.lp 0 0), [vS], [rWd], [], fun us l => appX False [.i .i64, .i .i64, .sl (.i .u64)] (fun (size count : Int) (ws : List Int) => SetR l size count ws) us⟩

/-! ### slab.Region[alarm.Row] -/
abbrev Rw := Int × Int × Int × Int
abbrev tpRw : Tp := .p (.i .i64) (.p (.i .u64) (.p (.i .u64) (.i .u64)))
abbrev Rg := List (Bool × Rw)
abbrev tpRg : Tp := .sl (.p .bo tpRw)
structure RegR (d : Rg) (room : List Rw) (l : List Bool) : Prop where
  room : room = d.map (·.2)
  held : l = d.map (·.1)
  le : d.length ≤ 4096
def vR : VP := .ls [.is (.own 0), .is (.obj 0)]
def rRm : RP := ⟨true, 54, tpRw⟩
def kReg : Kn := ⟨tpRg, .is (.lp 0 0), [vR], [rRm], [(.one 4, .sl .bo)], fun us d => appX False [.sl tpRw, .sl .bo] (fun (room : List Rw) (l : List Bool) => RegR d room l) us⟩

/-! ### wheel.Wheel -/
def kWhl : Kn := ⟨tpWh, .is (.lp 0 0), [vW, vL], [rL, rE, rM], [], fun us w => appX False [.i .u64, .i .i64, .i .i64, .i .i64, .i .i64, .sl tpL, .sl tpL, .sl tpM] (fun (now c0 c1 c2 c3 : Int) (L E : List Lk) (M : List (Int × Int)) => RepW w now c0 c1 c2 c3 L E M) us⟩

/-! ### alarm.Book -/
abbrev Tm := Bool × Int × Int × Int × Int × Int
abbrev tpTm : Tp := .p .bo (.p (.i .i64) (.p (.i .u64) (.p (.i .u64) (.p (.i .u64) (.i .i64)))))
abbrev Bo := List Tm × Int × Int
abbrev tpBo : Tp := .p (.sl tpTm) (.p (.i .i64) (.i .u64))
/-- A timer, its place and its alarm say the same. -/
structure TmR (turn : Int) (t : Tm) (p : Bool × Rw) (a : Mk) : Prop where
  is : p.1 = t.1
  row : t.1 = true → p.2 = (t.2.1, t.2.2.1, t.2.2.2.1, t.2.2.2.2.1)
  non : t.1 = false → t = (false, 0, 0, 0, 0, 0)
  on : a = if t.2.1 = 1 then (true, t.2.2.2.1, t.2.2.2.2.2) else (false, 0, 0)
  state : 0 ≤ t.2.1 ∧ t.2.1 ≤ 2
  turn : 0 ≤ t.2.2.2.2.2 ∧ t.2.2.2.2.2 ≤ turn
  u64 : u64ok t.2.2.1 ∧ u64ok t.2.2.2.1 ∧ u64ok t.2.2.2.2.1
structure BookR (b : Bo) (turn : Int) (d : Rg) (w : Wh) : Prop where
  turn : turn = b.2.1
  turn0 : 0 ≤ b.2.1 ∧ b.2.1 < 9223372036854775807
  now : w.2 = b.2.2
  nowu : u64ok b.2.2
  len : d.length = b.1.length
  lenw : w.1.length = b.1.length
  le : b.1.length ≤ 4096
  all : ∀ k : Int, 0 ≤ k → k < b.1.length → TmR b.2.1 (ix b.1 k) (ix d k) (ix w.1 k)
def vB : VP := .ls [.is (.obj 0), .is (.obj 1), .d (.i .u64)]
def kBook : Kn := ⟨tpBo, .is (.lp 0 0), [vB], [], [(.one 1, tpRg), (.one 2, tpWh)], fun us b => appX False [.i .u64, tpRg, tpWh] (fun (turn : Int) (d : Rg) (w : Wh) => BookR b turn d w) us⟩

def glB : List ((Nat × Nat) × Value) := (List.range 64).map fun j => ((0, j), .int .u8 ((Lib.deBruijn64tab.getD j 0 : Nat) : Int))
def KN : Env := ⟨fun n => match n with
  | 1 => kReg
  | 2 => kWhl
  | 3 => kBook
  | 4 => kSet
  | _ => ⟨.bo, .d .bo, [], [], [], fun _ _ => False⟩, KK.B, glB⟩
noncomputable def G27 : List (FuncId × Con) := G26
theorem G27_ok : GOK KN Tryd.prog G27 := GOK.lift rfl (by
  unfold G27 G26 G25 G24 G23 G22 G21 G20 G19 G18 G17 G16 G15 G14 G13 G12 G11 G10 G9 G8 G7 G6 G5 G4 G3 G2 G1 G0
  repeat' first | exact trivial | refine ⟨⟨rfl, fun _ _ => rfl⟩, ?_⟩) G26_ok
end Go.Proofs.YtplefbcgpbdkfaaDoor
/- Package bits: the contracts. -/
namespace Go.Proofs.YtplefbcgpbdkfaaDoor
open Go Go.Fx
-- ENV: KN

/-! ### math/bits.TrailingZeros64 -/
def conCtz : Con := fnP [.d (.i .u64)] (fun (x : Int) => u64ok x) (fun (x : Int) => i64 (Lib.ctz 64 x.toNat))
theorem ctz_ok : conCtz.ok KN Tryd.prog 84 := by
  intro us hus hpre c vals hh hargs
  obtain ⟨x, rfl⟩ : ∃ x : Int, us = [⟨.i .u64, x⟩] := by
    match us, hus with
    | [⟨t, e⟩], h =>
      obtain rfl : t = .i .u64 := by injection h
      exact ⟨e, rfl⟩
    | [], h => cases h
    | _ :: _ :: _, h => injection h with _ h; cases h
  have hx : u64ok x := hpre
  have hv : RVs c [V.i .u64 (.s x)] vals := hargs
  simp only [RVs, RV, I.val] at hv
  obtain ⟨v, _, rfl, rfl, rfl⟩ := hv
  obtain ⟨n, rfl⟩ := Int.eq_ofNat_of_zero_le hx.1
  have hn : n < 18446744073709551616 := by have := hx.2; omega
  have hT : TabAt (YtplefbcgpbdkfaaDoorTzR.g 1) Lib.deBruijn64tab c.w := fun j hj => by
    have hj : j < 64 := hj
    have := (hh.gl ((0, j), .int .u8 ((Lib.deBruijn64tab.getD j 0 : Nat) : Int)) (List.mem_map.2 ⟨j, List.mem_range.2 hj, rfl⟩)).2
    exact this
  refine (Any7.bits_TrailingZeros64 YtplefbcgpbdkfaaDoorTz n hn c.w (fun _ => hT)).mono ?_
  rintro e w' ⟨rfl, rfl⟩
  refine ⟨_, [], c, rfl, rfl, rfl, trivial, ?_, hh⟩
  show RV c (i64 (Lib.ctz 64 (n : Int).toNat)) _
  simp only [RV, I.val, Int.toNat_natCast]
noncomputable def G28 : List (FuncId × Con) := (84, conCtz) :: G27
theorem G28_ok : GOK KN Tryd.prog G28 := GOK.cons (Callable.of Tryd.func84 (by kernel_rfl) (by kernel_rfl)) ctz_ok G27_ok

/-! ### bits.Set -/
def IsS (size count : Int) (ws : List Int) : Prop := ∃ l, SetR l size count ws
def vSv (size count : Int) : Var := ⟨true, .ls [.own 0, i64 size, i64 count]⟩
def fxWd (l : List Int) : Row := ⟨true, true, 22, .i .u64, .s (l.length : Int), l⟩
def hasW (size : Int) (ws : List Int) (k : Int) : Bool := decide (0 ≤ k) && (decide (k < size) && bitW ws k)
def conSHas : Con := (mkCon [.is (.lp 0 0), .d (.i .i64)] [vS] [rWd] (fun (k size count : Int) (ws : List Int) => IsS size count ws) [] (constX True _) (fun (k size count : Int) (ws : List Int) => bb (hasW size ws k)) (constX [] _) (constX [] _)).look
def conSCount : Con := (mkCon [.is (.lp 0 0)] [vS] [rWd] (fun (size count : Int) (ws : List Int) => True) [] (constX True _) (fun (size count : Int) (ws : List Int) => i64 count) (constX [] _) (constX [] _)).look
def orW (ws : List Int) (k : Int) : List Int := ws.set (k / 64).toNat (((ix ws (k / 64)).toNat ||| 2 ^ (k % 64).toNat : Nat) : Int)
def offW (ws : List Int) (k : Int) : List Int := ws.set (k / 64).toNat (((ix ws (k / 64)).toNat ^^^ 2 ^ (k % 64).toNat : Nat) : Int)
def putB (size : Int) (ws : List Int) (k : Int) : Bool := decide (0 ≤ k) && (decide (k < size) && !bitW ws k)
def conSPut : Con := mkCon [.is (.lp 0 0), .d (.i .i64)] [vS] [rWd] (fun (k size count : Int) (ws : List Int) => IsS size count ws) [] (constX True _)
  (fun (k size count : Int) (ws : List Int) => bb (putB size ws k)) (fun (k size count : Int) (ws : List Int) => [vSv size (if putB size ws k then count + 1 else count)]) (fun (k size count : Int) (ws : List Int) => [fxWd (if putB size ws k then orW ws k else ws)])
def conSDrop : Con := mkCon [.is (.lp 0 0), .d (.i .i64)] [vS] [rWd] (fun (k size count : Int) (ws : List Int) => IsS size count ws) [] (constX True _)
  (fun (k size count : Int) (ws : List Int) => bb (hasW size ws k)) (fun (k size count : Int) (ws : List Int) => [vSv size (if hasW size ws k then count - 1 else count)]) (fun (k size count : Int) (ws : List Int) => [fxWd (if hasW size ws k then offW ws k else ws)])
def conSNew : Con := mkCon [.d (.i .i64)] [] [] (fun (n : Int) => True) [] (constX True _) (constX (.lp 0 0) _) (fun (n : Int) => [vSv (cut4096 n) 0]) (fun (n : Int) => [mkRow 22 (.i .u64) (List.replicate ((cut4096 n + 63) / 64) 0)])
/-- The first from a place on where the bits are so. -/
def FindPost (k about size : Int) (ws : List Int) (o : Int) (b : Bool) : Prop :=
  let q : Int → Bool := fun i => bitW ws i != decide (about ≠ 0)
  (∃ i, max k 0 ≤ i ∧ i < 64 * ws.length ∧ q i = true ∧ (∀ j, max k 0 ≤ j → j < i → q j = false) ∧ o = i ∧ b = decide (i < size)) ∨ ((∀ j, max k 0 ≤ j → j < 64 * ws.length → q j = false) ∧ o = 0 ∧ b = false)
def conSFind : Con := (mkCon [.is (.lp 0 0), .d (.i .i64), .d (.i .u64)] [vS] [rWd] (fun (k about size count : Int) (ws : List Int) => IsS size count ws ∧ k < size ∧ (about = 0 ∨ about = 18446744073709551615)) [.i .i64, .bo]
  (fun (k about size count : Int) (ws : List Int) (o : Int) (b : Bool) => FindPost k about size ws o b) (fun (k about size count : Int) (ws : List Int) (o : Int) (b : Bool) => .tup [i64 o, bb b]) (constX [] _) (constX [] _)).look
def heldC (k : Int) (ok : Bool) : Int := if ok then k else 0
def conHeld : Con := fnC [.d (.i .i64), .d .bo] (fun (k : Int) (ok : Bool) => .tup [i64 (heldC k ok), bb ok])
/-- The least number from k on that is in a row of tells. -/
def NextP (q : Int → Bool) (k n o : Int) (b : Bool) : Prop := (b = true ∧ max k 0 ≤ o ∧ o < n ∧ q o = true ∧ ∀ j, max k 0 ≤ j → j < o → q j = false) ∨ (b = false ∧ o = 0 ∧ ∀ j, max k 0 ≤ j → j < n → q j = false)
def conSNext : Con := (mkCon [.is (.lp 0 0), .d (.i .i64)] [vS] [rWd] (fun (k size count : Int) (ws : List Int) => IsS size count ws) [.i .i64, .bo]
  (fun (k size count : Int) (ws : List Int) (o : Int) (b : Bool) => NextP (bitW ws) k size o b) (fun (k size count : Int) (ws : List Int) (o : Int) (b : Bool) => .tup [i64 o, bb b]) (constX [] _) (constX [] _)).look
def conSGap : Con := (mkCon [.is (.lp 0 0), .d (.i .i64)] [vS] [rWd] (fun (k size count : Int) (ws : List Int) => IsS size count ws) [.i .i64, .bo]
  (fun (k size count : Int) (ws : List Int) (o : Int) (b : Bool) => NextP (fun i => !bitW ws i) k size o b) (fun (k size count : Int) (ws : List Int) (o : Int) (b : Bool) => .tup [i64 o, bb b]) (constX [] _) (constX [] _)).look
end Go.Proofs.YtplefbcgpbdkfaaDoor
/- Package bits: the plain law. -/
namespace Go.Proofs.YtplefbcgpbdkfaaDoor
open Go Go.Fx

theorem rem64_ {x : Int} (h0 : 0 ≤ x) : litArith .rem .i64 x 64 = x % 64 := Int.tmod_eq_emod_of_nonneg h0
theorem bvU {n : Nat} (h : n < 18446744073709551616) : (BitVec.ofInt 64 (n : Int)).toNat = n := by
  rw [BitVec.ofInt_natCast, BitVec.toNat_ofNat]; exact Nat.mod_eq_of_lt h
theorem orU_ {a b : Nat} (ha : a < 18446744073709551616) (hb : b < 18446744073709551616) : litArith .or .u64 (a : Int) (b : Int) = ((a ||| b : Nat) : Int) := by
  have h := (BitVec.ofInt 64 (a : Int) ||| BitVec.ofInt 64 (b : Int)).isLt
  show IntKind.wrap .u64 ((BitVec.ofInt 64 (a : Int) ||| BitVec.ofInt 64 (b : Int)).toNat : Int) = _
  rw [wrapU_ (by omega) (by omega), BitVec.toNat_or, bvU ha, bvU hb]
theorem xorU_ {a b : Nat} (ha : a < 18446744073709551616) (hb : b < 18446744073709551616) : litArith .xor .u64 (a : Int) (b : Int) = ((a ^^^ b : Nat) : Int) := by
  have h := (BitVec.ofInt 64 (a : Int) ^^^ BitVec.ofInt 64 (b : Int)).isLt
  show IntKind.wrap .u64 ((BitVec.ofInt 64 (a : Int) ^^^ BitVec.ofInt 64 (b : Int)).toNat : Int) = _
  rw [wrapU_ (by omega) (by omega), BitVec.toNat_xor, bvU ha, bvU hb]
theorem andU_ {a b : Nat} (ha : a < 18446744073709551616) (hb : b < 18446744073709551616) : litArith .and .u64 (a : Int) (b : Int) = ((a &&& b : Nat) : Int) := by
  have h := (BitVec.ofInt 64 (a : Int) &&& BitVec.ofInt 64 (b : Int)).isLt
  show IntKind.wrap .u64 ((BitVec.ofInt 64 (a : Int) &&& BitVec.ofInt 64 (b : Int)).toNat : Int) = _
  rw [wrapU_ (by omega) (by omega), BitVec.toNat_and, bvU ha, bvU hb]
theorem p64 {k : Nat} (hk : k < 64) : 2 ^ k < 18446744073709551616 := Nat.lt_of_le_of_lt (Nat.pow_le_pow_right (by decide) (show k ≤ 63 by omega)) (by decide)
theorem shlU_ {k : Nat} (hk : k < 64) : litArith .shl .u64 1 (k : Int) = ((2 ^ k : Nat) : Int) := by
  show IntKind.wrap .u64 (1 * 2 ^ min ((k : Int).toNat) 64) = _
  rw [show min ((k : Int).toNat) 64 = k from by omega, Int.one_mul]
  have e : (2 : Int) ^ k = ((2 ^ k : Nat) : Int) := by push_cast; rfl
  have := p64 hk
  rw [e]
  generalize 2 ^ k = p at *
  rw [wrapU_ (by omega) (by omega)]
theorem andNotU_ {a k : Nat} (ha : a < 18446744073709551616) (hk : k < 64) (hb : a.testBit k = true) : litArith .andNot .u64 (a : Int) ((2 ^ k : Nat) : Int) = ((a ^^^ 2 ^ k : Nat) : Int) := by
  have h := (BitVec.ofInt 64 (a : Int) &&& ~~~ BitVec.ofInt 64 ((2 ^ k : Nat) : Int)).isLt
  show IntKind.wrap .u64 ((BitVec.ofInt 64 (a : Int) &&& ~~~ BitVec.ofInt 64 ((2 ^ k : Nat) : Int)).toNat : Int) = _
  have hp := p64 hk
  rw [wrapU_ (by omega) (by omega), BitVec.toNat_and, BitVec.toNat_not, bvU ha, bvU hp]
  congr 1
  apply Nat.eq_of_testBit_eq
  intro i
  rw [Nat.testBit_and, Nat.testBit_xor, Nat.testBit_two_pow, show 2 ^ 64 - 1 - 2 ^ k = 2 ^ 64 - (2 ^ k + 1) from by omega, Nat.testBit_two_pow_sub_succ (by simpa using hp), Nat.testBit_two_pow]
  by_cases e : k = i
  · subst e
    simp [hb]
  · simp only [e, decide_false, Bool.not_false, Bool.and_true, Bool.xor_false]
    by_cases hi : i < 64
    · simp [hi]
    · have : a.testBit i = false := Nat.testBit_lt_two_pow (Nat.lt_of_lt_of_le ha (Nat.pow_le_pow_right (n := 2) (by decide) (show 64 ≤ i by omega)))
      simp [this]
theorem bit_eq {n k : Nat} (hn : n < 18446744073709551616) (hk : k < 64) : litCmp .eql (litArith .and .u64 (litArith .shr .u64 (n : Int) (k : Int)) 1) 1 = n.testBit k := by
  have e : litArith .shr .u64 (n : Int) (k : Int) = ((n / 2 ^ k : Nat) : Int) := by rw [shrU_ _ k hk]; push_cast; rfl
  have hd : n / 2 ^ k ≤ n := Nat.div_le_self _ _
  have e1 : litArith .and .u64 ((n / 2 ^ k : Nat) : Int) ((1 : Nat) : Int) = (((n / 2 ^ k) &&& 1 : Nat) : Int) := andU_ (by omega) (by decide)
  rw [e]
  show litCmp .eql (litArith .and .u64 ((n / 2 ^ k : Nat) : Int) ((1 : Nat) : Int)) 1 = _
  rw [e1, Nat.testBit_eq_decide_div_mod_eq, Nat.and_one_is_mod]
  simp only [litCmp]
  rcases Nat.mod_two_eq_zero_or_one (n / 2 ^ k) with h | h <;> rw [h] <;> rfl
theorem i64_of_nat {x : Int} (h0 : 0 ≤ x) : ∃ n : Nat, x = n := Int.eq_ofNat_of_zero_le h0
section
variable {l : List Bool} {size count k : Int} {ws : List Int}
theorem SetR.len (h : SetR l size count ws) : ws.length ≤ 64 ∧ 0 ≤ size ∧ size ≤ 4096 ∧ size ≤ 64 * ws.length := by
  have h1 := h.words; have h2 := h.le; have h3 := h.size
  omega
theorem SetR.div (h : SetR l size count ws) (k0 : 0 ≤ k) (k1 : k < size) : 0 ≤ k / 64 ∧ k / 64 < ws.length := by
  have := h.len
  omega
theorem SetR.has (h : SetR l size count ws) (k0 : 0 ≤ k) (k1 : k < size) : litCmp .eql (litArith .and .u64 (litArith .shr .u64 (ix ws (k / 64)) (k % 64)) 1) 1 = bitW ws k := by
  obtain ⟨d0, d1⟩ := h.div k0 k1
  obtain ⟨u0, u1⟩ := h.u64 _ d0 d1
  obtain ⟨n, hn⟩ := i64_of_nat u0
  obtain ⟨m, hm⟩ := i64_of_nat (show 0 ≤ k % 64 by omega)
  unfold bitW
  rw [hn, hm, bit_eq (by omega) (by omega)]
  rfl
theorem SetR.put (h : SetR l size count ws) (k0 : 0 ≤ k) (k1 : k < size) : litArith .or .u64 (ix ws (k / 64)) (litArith .shl .u64 1 (k % 64)) = (((ix ws (k / 64)).toNat ||| 2 ^ (k % 64).toNat : Nat) : Int) := by
  obtain ⟨d0, d1⟩ := h.div k0 k1
  obtain ⟨u0, u1⟩ := h.u64 _ d0 d1
  obtain ⟨n, hn⟩ := i64_of_nat u0
  obtain ⟨m, hm⟩ := i64_of_nat (show 0 ≤ k % 64 by omega)
  rw [hn, hm, shlU_ (by omega), orU_ (by omega) (p64 (by omega))]
  rfl
theorem SetR.drop (h : SetR l size count ws) (k0 : 0 ≤ k) (k1 : k < size) (hb : bitW ws k = true) : litArith .andNot .u64 (ix ws (k / 64)) (litArith .shl .u64 1 (k % 64)) = (((ix ws (k / 64)).toNat ^^^ 2 ^ (k % 64).toNat : Nat) : Int) := by
  obtain ⟨d0, d1⟩ := h.div k0 k1
  obtain ⟨u0, u1⟩ := h.u64 _ d0 d1
  obtain ⟨n, hn⟩ := i64_of_nat u0
  obtain ⟨m, hm⟩ := i64_of_nat (show 0 ≤ k % 64 by omega)
  unfold bitW at hb
  rw [hn, hm] at hb
  rw [hn, hm, shlU_ (by omega), andNotU_ (by omega) (by omega) (by simpa using hb)]
  rfl
end
/-! ### The least number -/
theorem ctz_spec {n : Nat} (hn : n < 18446744073709551616) (h : n ≠ 0) : Lib.ctz 64 n < 64 ∧ n.testBit (Lib.ctz 64 n) = true ∧ ∀ j, j < Lib.ctz 64 n → n.testBit j = false := by
  obtain ⟨m, hm, hk⟩ := Lib.ctzFrom_spec 64 n (by omega) (by simpa using hn)
  have e : Lib.ctz 64 n = Lib.ctzFrom 64 n := by unfold Lib.ctz; rw [if_neg h]
  rw [e]
  generalize Lib.ctzFrom 64 n = k at *
  subst hm
  refine ⟨hk, ?_, fun j hj => ?_⟩
  · rw [Nat.testBit_two_pow_mul]; simp
  · rw [Nat.testBit_two_pow_mul]
    have : ¬ (j ≥ k) := by omega
    simp [this]
section
variable {l : List Bool} {size count k about w : Int} {ws : List Int}
/-- The bits that are looked for. -/
def qW (ws : List Int) (about i : Int) : Bool := bitW ws i != decide (about ≠ 0)
theorem word_bits (h : SetR l size count ws) (ha : about = 0 ∨ about = 18446744073709551615) (w0 : 0 ≤ w) (w1 : w < ws.length) :
    u64ok (litArith .xor .u64 (ix ws w) about) ∧ ∀ r : Nat, r < 64 → (litArith .xor .u64 (ix ws w) about).toNat.testBit r = qW ws about (64 * w + r) := by
  obtain ⟨u0, u1⟩ := h.u64 _ w0 w1
  obtain ⟨n, hn⟩ := i64_of_nat u0
  have hb : ∀ r : Nat, r < 64 → bitW ws (64 * w + r) = n.testBit r := fun r hr => by
    unfold bitW
    rw [show (64 * w + (r : Int)) / 64 = w from by omega, show ((64 * w + (r : Int)) % 64).toNat = r from by omega, hn]
    rfl
  have hw : n < 18446744073709551616 := by omega
  rcases ha with rfl | rfl
  · have e : litArith .xor .u64 (ix ws w) 0 = ((n ^^^ 0 : Nat) : Int) := by rw [hn]; exact xorU_ hw (by decide)
    rw [e]
    refine ⟨⟨by omega, by simp only [Nat.xor_zero]; omega⟩, fun r hr => ?_⟩
    unfold qW
    rw [hb r hr, Int.toNat_natCast, Nat.xor_zero]
    simp
  · have e : litArith .xor .u64 (ix ws w) 18446744073709551615 = ((n ^^^ 18446744073709551615 : Nat) : Int) := by rw [hn]; exact xorU_ hw (by decide)
    rw [e]
    have hl : n ^^^ 18446744073709551615 < 2 ^ 64 := Nat.xor_lt_two_pow (by simpa using hw) (by decide)
    refine ⟨⟨by omega, by omega⟩, fun r hr => ?_⟩
    unfold qW
    rw [hb r hr, Int.toNat_natCast, Nat.testBit_xor, show (18446744073709551615 : Nat) = 2 ^ 64 - 1 from rfl, Nat.testBit_two_pow_sub_one]
    simp [hr]
theorem mask_bits {x : Int} (hx : u64ok x) {r0 : Int} (h0 : 0 ≤ r0) (h1 : r0 < 64) : u64ok (litArith .shl .u64 (litArith .shr .u64 x r0) r0) ∧ ∀ r : Nat, r < 64 → (litArith .shl .u64 (litArith .shr .u64 x r0) r0).toNat.testBit r = (decide (r0 ≤ r) && x.toNat.testBit r) := by
  obtain ⟨n, rfl⟩ := i64_of_nat hx.1
  obtain ⟨m, rfl⟩ := i64_of_nat h0
  have hn : n < 18446744073709551616 := by have := hx.2; omega
  have e : litArith .shr .u64 (n : Int) (m : Int) = ((n / 2 ^ m : Nat) : Int) := by rw [shrU_ _ m (by omega)]; push_cast; rfl
  have hle : n / 2 ^ m * 2 ^ m ≤ n := Nat.div_mul_le_self _ _
  have e2 : litArith .shl .u64 ((n / 2 ^ m : Nat) : Int) (m : Int) = ((n / 2 ^ m * 2 ^ m : Nat) : Int) := by
    show IntKind.wrap .u64 (((n / 2 ^ m : Nat) : Int) * 2 ^ min ((m : Int).toNat) 64) = _
    rw [show min ((m : Int).toNat) 64 = m from by omega]
    have e3 : ((n / 2 ^ m : Nat) : Int) * 2 ^ m = ((n / 2 ^ m * 2 ^ m : Nat) : Int) := by push_cast; rfl
    rw [e3, wrapU_ (by omega) (by omega)]
  rw [e, e2]
  refine ⟨⟨by omega, by omega⟩, fun r hr => ?_⟩
  rw [Int.toNat_natCast, Int.toNat_natCast, Nat.testBit_mul_two_pow]
  by_cases c : m ≤ r
  · have e1 : decide (m ≤ r) = true := by simp [c]
    have e4 : decide ((m : Int) ≤ (r : Int)) = true := by simp; omega
    rw [e1, e4, Bool.true_and, Bool.true_and, Nat.testBit_div_two_pow, show r - m + m = r from by omega]
  · have e1 : decide (m ≤ r) = false := by simp; omega
    have e4 : decide ((m : Int) ≤ (r : Int)) = false := by simp; omega
    rw [e1, e4, Bool.false_and, Bool.false_and]
/-- A word of those that are looked for. -/
structure WordAt (ws : List Int) (about k w y : Int) : Prop where
  u : u64ok y
  b : ∀ r : Nat, r < 64 → y.toNat.testBit r = (decide (max k 0 ≤ 64 * w + r) && qW ws about (64 * w + r))
theorem WordAt.hit {y : Int} (h : WordAt ws about k w y) (hw : 0 ≤ w ∧ w < ws.length) (hy : y ≠ 0) (hpre : ∀ j, max k 0 ≤ j → j < 64 * w → qW ws about j = false) :
    FindPost k about size ws (64 * w + (Lib.ctz 64 y.toNat : Nat)) (decide (64 * w + (Lib.ctz 64 y.toNat : Nat) < size)) := by
  obtain ⟨c1, c2, c3⟩ := ctz_spec (n := y.toNat) (by have := h.u.2; have := h.u.1; omega) (by have := h.u.1; omega)
  rw [h.b _ c1, Bool.and_eq_true, decide_eq_true_eq] at c2
  refine .inl ⟨_, c2.1, by omega, c2.2, fun j j0 j1 => ?_, rfl, rfl⟩
  by_cases cj : j < 64 * w
  · exact hpre j j0 cj
  · have := c3 (j - 64 * w).toNat (by omega)
    rw [h.b _ (by omega), show 64 * w + ((j - 64 * w).toNat : Int) = j from by omega] at this
    rwa [decide_eq_true j0, Bool.true_and] at this
theorem WordAt.miss {y : Int} (h : WordAt ws about k w y) (hy : y = 0) (hpre : ∀ j, max k 0 ≤ j → j < 64 * w → qW ws about j = false) : ∀ j, max k 0 ≤ j → j < 64 * (w + 1) → qW ws about j = false := fun j j0 j1 => by
  by_cases cj : j < 64 * w
  · exact hpre j j0 cj
  · have := h.b (j - 64 * w).toNat (by omega)
    rw [show 64 * w + ((j - 64 * w).toNat : Int) = j from by omega, hy] at this
    simp only [Int.toNat_zero, Nat.zero_testBit] at this
    rw [decide_eq_true j0, Bool.true_and] at this
    exact this.symm
theorem word_first (h : SetR l size count ws) (ha : about = 0 ∨ about = 18446744073709551615) (w0 : 0 ≤ w) (w1 : w < ws.length) (he : w = max k 0 / 64) :
    WordAt ws about k w (litArith .shl .u64 (litArith .shr .u64 (litArith .xor .u64 (ix ws w) about) (max k 0 % 64)) (max k 0 % 64)) := by
  obtain ⟨a1, a2⟩ := word_bits h ha w0 w1
  obtain ⟨b1, b2⟩ := mask_bits a1 (r0 := max k 0 % 64) (by omega) (by omega)
  refine ⟨b1, fun r hr => ?_⟩
  rw [b2 r hr, a2 r hr]
  congr 1
  by_cases c : max k 0 % 64 ≤ r
  · simp only [c, decide_true]; symm; simp; omega
  · simp only [c, decide_false]; symm; simp; omega
theorem word_next (h : SetR l size count ws) (ha : about = 0 ∨ about = 18446744073709551615) (w0 : 0 ≤ w) (w1 : w < ws.length) (he : max k 0 ≤ 64 * w) :
    WordAt ws about k w (litArith .xor .u64 (ix ws w) about) := by
  obtain ⟨a1, a2⟩ := word_bits h ha w0 w1
  refine ⟨a1, fun r hr => ?_⟩
  rw [a2 r hr]
  have : decide (max k 0 ≤ 64 * w + (r : Int)) = true := by simp; omega
  rw [this, Bool.true_and]
theorem find_next {o : Int} {b : Bool} (hs : size ≤ 64 * ws.length) (h : FindPost k about size ws o b) : NextP (fun i => qW ws about i) k size (heldC o b) b := by
  rcases h with ⟨i, i0, i1, hi, hp, rfl, rfl⟩ | ⟨hp, rfl, rfl⟩
  · by_cases c : o < size
    · rw [decide_eq_true c]
      exact .inl ⟨rfl, i0, c, hi, hp⟩
    · rw [decide_eq_false c]
      exact .inr ⟨rfl, rfl, fun j j0 j1 => hp j j0 (by omega)⟩
  · exact .inr ⟨rfl, rfl, fun j j0 j1 => hp j j0 (by omega)⟩
end
end Go.Proofs.YtplefbcgpbdkfaaDoor
/- Package bits: the code keeps the contracts. -/
namespace Go.Proofs.YtplefbcgpbdkfaaDoor
open Go Go.Fx
-- ENV: KN

set_option maxRecDepth 10000 in
theorem shas_vc :
  ∀ x0 : Int,
 ∀ x1 : Int,
 ∀ x2 : Int,
 ∀ x3 : List Int,
 (IsS x1 x2 x3) →
 ((litCmp BinOp.geq x0 (0 : Int) = true) →
 ((litCmp BinOp.lss x0 x1 = true) →
 ∀ x4 : Int,
 (x4 = litArith BinOp.quo IntKind.i64 x0 (64 : Int)) →
 (((0 : Int) ≤ x4) ∧
 (x4 < (↑(List.length x3) : Int))) ∧
 (∀ x5 : Int,
 (x5 = ix x3 x4) →
 ∀ x6 : Int,
 (x6 = litArith BinOp.rem IntKind.i64 x0 (64 : Int)) →
 ((0 : Int) ≤ x6) ∧
 (∀ x7 : Int,
 (x7 = litArith BinOp.shr IntKind.u64 x5 x6) →
 ∀ x8 : Int,
 (x8 = litArith BinOp.and IntKind.u64 x7 (1 : Int)) →
 (True) ∧
 ((litCmp BinOp.eql x8 (1 : Int) = hasW x1 x3 x0) ∧
 ((x1 = x1) ∧
 ((x2 = x2) ∧
 ((x3 = x3) ∧
 (((↑(List.length x3) : Int) = (↑(List.length x3) : Int)) ∧
 (True))))))))) ∧
 ((litCmp BinOp.lss x0 x1 = false) →
 (True) ∧
 ((false = hasW x1 x3 x0) ∧
 ((x1 = x1) ∧
 ((x2 = x2) ∧
 ((x3 = x3) ∧
 (((↑(List.length x3) : Int) = (↑(List.length x3) : Int)) ∧
 (True)))))))) ∧
 ((litCmp BinOp.geq x0 (0 : Int) = false) →
 (True) ∧
 ((false = hasW x1 x3 x0) ∧
 ((x1 = x1) ∧
 ((x2 = x2) ∧
 ((x3 = x3) ∧
 (((↑(List.length x3) : Int) = (↑(List.length x3) : Int)) ∧
        (True))))))) := by
  rintro k size count ws ⟨l, h⟩
  have hl := h.len
  simp only [gtrT, gtrF, lssT, lssF, leqT, leqF, geqT, geqF, eqlT, eqlF, neqT, neqF, true_and, and_true, true_implies, implies_true, Bool.not_eq_true', Bool.not_eq_false', bne_iff_ne, ne_eq, not_true_eq_false, not_false_eq_true, Int.toNat_natCast, same_self, reduceCtorEq, false_implies, List.nil_append]
  refine ⟨fun c0 => ⟨fun c1 => ?_, fun c1 => ?_⟩, fun c0 => ?_⟩
  · rintro _ rfl
    rw [quo64_ c0 (by omega)]
    refine ⟨h.div c0 c1, ?_⟩
    rintro _ rfl _ rfl
    rw [rem64_ c0]
    refine ⟨by omega, ?_⟩
    rintro _ rfl _ rfl
    rw [h.has c0 c1]
    unfold hasW
    simp [c0, c1]
  · unfold hasW
    simp; omega
  · unfold hasW
    simp; omega
set_option maxRecDepth 10000 in
theorem shas_ok : conSHas.ok KN Tryd.prog 53 := by
  refine Con.of_vc ([]) ([]) ([]) TT_ok follows Tryd.func53 ?_ G28_ok (@toVC _ _ shas_vc ?_)
  · kernel_rfl
  · kernel_rfl
noncomputable def G29 : List (FuncId × Con) := (53, conSHas) :: G28
theorem G29_ok : GOK KN Tryd.prog G29 := GOK.cons (Callable.of Tryd.func53 (by kernel_rfl) (by kernel_rfl)) shas_ok G28_ok

set_option maxRecDepth 10000 in
theorem scount_vc :
  ∀ x0 : Int,
 ∀ x1 : Int,
 ∀ x2 : List Int,
 True →
 (True) ∧
 ((x1 = x1) ∧
 ((x0 = x0) ∧
 ((x1 = x1) ∧
 ((x2 = x2) ∧
 (((↑(List.length x2) : Int) = (↑(List.length x2) : Int)) ∧
       (True)))))) := by
  intro size count ws _
  simp
set_option maxRecDepth 10000 in
theorem scount_ok : conSCount.ok KN Tryd.prog 72 := by
  refine Con.of_vc ([]) ([]) ([]) TT_ok follows Tryd.func72 ?_ G29_ok (@toVC _ _ scount_vc ?_)
  · kernel_rfl
  · kernel_rfl
noncomputable def G30 : List (FuncId × Con) := (72, conSCount) :: G29
theorem G30_ok : GOK KN Tryd.prog G30 := GOK.cons (Callable.of Tryd.func72 (by kernel_rfl) (by kernel_rfl)) scount_ok G29_ok

set_option maxRecDepth 10000 in
theorem sput_vc :
  ∀ x0 : Int,
 ∀ x1 : Int,
 ∀ x2 : Int,
 ∀ x3 : List Int,
 (IsS x1 x2 x3) →
 ((litCmp BinOp.lss x0 (0 : Int) = true) →
 (True) ∧
 ((false = putB x1 x3 x0) ∧
 ((x1 = x1) ∧
 ((x2 = if putB x1 x3 x0 = true then x2 + (1 : Int) else x2) ∧
 ((x3 = if putB x1 x3 x0 = true then orW x3 x0 else x3) ∧
 (((↑(List.length x3) : Int) = (↑(List.length (if putB x1 x3 x0 = true then orW x3 x0 else x3)) : Int)) ∧
 (True))))))) ∧
 ((litCmp BinOp.lss x0 (0 : Int) = false) →
 ((litCmp BinOp.geq x0 x1 = true) →
 (True) ∧
 ((false = putB x1 x3 x0) ∧
 ((x1 = x1) ∧
 ((x2 = if putB x1 x3 x0 = true then x2 + (1 : Int) else x2) ∧
 ((x3 = if putB x1 x3 x0 = true then orW x3 x0 else x3) ∧
 (((↑(List.length x3) : Int) = (↑(List.length (if putB x1 x3 x0 = true then orW x3 x0 else x3)) : Int)) ∧
 (True))))))) ∧
 ((litCmp BinOp.geq x0 x1 = false) →
 (IsS x1 x2 x3) ∧
 (True →
 ((hasW x1 x3 x0 = true) →
 (True) ∧
 ((false = putB x1 x3 x0) ∧
 ((x1 = x1) ∧
 ((x2 = if putB x1 x3 x0 = true then x2 + (1 : Int) else x2) ∧
 ((x3 = if putB x1 x3 x0 = true then orW x3 x0 else x3) ∧
 (((↑(List.length x3) : Int) = (↑(List.length (if putB x1 x3 x0 = true then orW x3 x0 else x3)) : Int)) ∧
 (True))))))) ∧
 ((hasW x1 x3 x0 = false) →
 (((0 : Int) ≤ litArith BinOp.quo IntKind.i64 x0 (64 : Int)) ∧
 (litArith BinOp.quo IntKind.i64 x0 (64 : Int) < (↑(List.length x3) : Int))) ∧
 (((0 : Int) ≤ litArith BinOp.rem IntKind.i64 x0 (64 : Int)) ∧
 ((((0 : Int) ≤ litArith BinOp.quo IntKind.i64 x0 (64 : Int)) ∧
 (litArith BinOp.quo IntKind.i64 x0 (64 : Int) < (↑(List.length x3) : Int))) ∧
 (∀ x4 : Int,
 (x4 = litArith BinOp.add IntKind.i64 x2 (1 : Int)) →
 (True) ∧
 ((true = putB x1 x3 x0) ∧
 ((x1 = x1) ∧
 ((x4 = if putB x1 x3 x0 = true then x2 + (1 : Int) else x2) ∧
 ((List.set x3 (Int.toNat (litArith BinOp.quo IntKind.i64 x0 (64 : Int))) (litArith BinOp.or IntKind.u64 (ix x3 (litArith BinOp.quo IntKind.i64 x0 (64 : Int))) (litArith BinOp.shl IntKind.u64 (1 : Int) (litArith BinOp.rem IntKind.i64 x0 (64 : Int)))) = if putB x1 x3 x0 = true then orW x3 x0 else x3) ∧
 (((↑(List.length x3) : Int) = (↑(List.length (if putB x1 x3 x0 = true then orW x3 x0 else x3)) : Int)) ∧
              (True))))))))))))) := by
  rintro k size count ws ⟨l, h⟩
  have hl := h.len
  simp only [gtrT, gtrF, lssT, lssF, leqT, leqF, geqT, geqF, eqlT, eqlF, neqT, neqF, true_and, and_true, true_implies, implies_true, Bool.not_eq_true', Bool.not_eq_false', bne_iff_ne, ne_eq, not_true_eq_false, not_false_eq_true, Int.toNat_natCast, same_self, reduceCtorEq, false_implies, List.nil_append]
  refine ⟨fun c0 => ?_, fun c0 => ⟨fun c1 => ?_, fun c1 => ⟨⟨l, h⟩, fun c2 => ?_, fun c2 => ?_⟩⟩⟩
  · have e : putB size ws k = false := by unfold putB; simp; omega
    simp [e]
  · have e : putB size ws k = false := by unfold putB; simp; omega
    simp [e]
  · have e : putB size ws k = false := by
      unfold hasW at c2; unfold putB
      simp only [Bool.and_eq_true, decide_eq_true_eq] at c2
      simp [c2.2.2]
    simp [e]
  · have hb : bitW ws k = false := by
      unfold hasW at c2
      simpa [c0, c1] using c2
    have e : putB size ws k = true := by
      unfold putB; simp [hb]; omega
    have hcn := h.count
    have hnt : nt l ≤ 4096 := by
      have := h.le
      have h2 := List.length_filter_le id l
      unfold nt; omega
    have hn0 : 0 ≤ nt l := by unfold nt; omega
    rw [quo64_ c0 (by omega), rem64_ c0, h.put c0 c1]
    refine ⟨h.div c0 c1, by omega, h.div c0 c1, ?_⟩
    rintro _ rfl
    rw [addI_ (by omega) (by omega)]
    simp [e, orW]
set_option maxRecDepth 10000 in
theorem sput_ok : conSPut.ok KN Tryd.prog 52 := by
  refine Con.of_vc ([]) ([]) ([]) TT_ok follows Tryd.func52 ?_ G30_ok (@toVC _ _ sput_vc ?_)
  · kernel_rfl
  · kernel_rfl
noncomputable def G31 : List (FuncId × Con) := (52, conSPut) :: G30
theorem G31_ok : GOK KN Tryd.prog G31 := GOK.cons (Callable.of Tryd.func52 (by kernel_rfl) (by kernel_rfl)) sput_ok G30_ok

set_option maxRecDepth 10000 in
theorem sdrop_vc :
  ∀ x0 : Int,
 ∀ x1 : Int,
 ∀ x2 : Int,
 ∀ x3 : List Int,
 (IsS x1 x2 x3) →
 (IsS x1 x2 x3) ∧
 (True →
 (((!hasW x1 x3 x0) = true) →
 (True) ∧
 ((false = hasW x1 x3 x0) ∧
 ((x1 = x1) ∧
 ((x2 = if hasW x1 x3 x0 = true then x2 - (1 : Int) else x2) ∧
 ((x3 = if hasW x1 x3 x0 = true then offW x3 x0 else x3) ∧
 (((↑(List.length x3) : Int) = (↑(List.length (if hasW x1 x3 x0 = true then offW x3 x0 else x3)) : Int)) ∧
 (True))))))) ∧
 (((!hasW x1 x3 x0) = false) →
 (((0 : Int) ≤ litArith BinOp.quo IntKind.i64 x0 (64 : Int)) ∧
 (litArith BinOp.quo IntKind.i64 x0 (64 : Int) < (↑(List.length x3) : Int))) ∧
 (((0 : Int) ≤ litArith BinOp.rem IntKind.i64 x0 (64 : Int)) ∧
 ((((0 : Int) ≤ litArith BinOp.quo IntKind.i64 x0 (64 : Int)) ∧
 (litArith BinOp.quo IntKind.i64 x0 (64 : Int) < (↑(List.length x3) : Int))) ∧
 (∀ x4 : Int,
 (x4 = litArith BinOp.sub IntKind.i64 x2 (1 : Int)) →
 (True) ∧
 ((true = hasW x1 x3 x0) ∧
 ((x1 = x1) ∧
 ((x4 = if hasW x1 x3 x0 = true then x2 - (1 : Int) else x2) ∧
 ((List.set x3 (Int.toNat (litArith BinOp.quo IntKind.i64 x0 (64 : Int))) (litArith BinOp.andNot IntKind.u64 (ix x3 (litArith BinOp.quo IntKind.i64 x0 (64 : Int))) (litArith BinOp.shl IntKind.u64 (1 : Int) (litArith BinOp.rem IntKind.i64 x0 (64 : Int)))) = if hasW x1 x3 x0 = true then offW x3 x0 else x3) ∧
 (((↑(List.length x3) : Int) = (↑(List.length (if hasW x1 x3 x0 = true then offW x3 x0 else x3)) : Int)) ∧
            (True))))))))))) := by
  rintro k size count ws ⟨l, h⟩
  have hl := h.len
  simp only [gtrT, gtrF, lssT, lssF, leqT, leqF, geqT, geqF, eqlT, eqlF, neqT, neqF, true_and, and_true, true_implies, implies_true, Bool.not_eq_true', Bool.not_eq_false', bne_iff_ne, ne_eq, not_true_eq_false, not_false_eq_true, Int.toNat_natCast, same_self, reduceCtorEq, false_implies, List.nil_append]
  refine ⟨⟨l, h⟩, fun c2 => ?_, fun c2 => ?_⟩
  · simp [c2]
  · have c2' := c2
    unfold hasW at c2'
    simp only [Bool.and_eq_true, decide_eq_true_eq] at c2'
    obtain ⟨c0, c1, hb⟩ := c2'
    have hcn := h.count
    have hnt : nt l ≤ 4096 := by
      have := h.le
      have h2 := List.length_filter_le id l
      unfold nt; omega
    have hn0 : 0 ≤ nt l := by unfold nt; omega
    rw [quo64_ c0 (by omega), rem64_ c0, h.drop c0 c1 hb]
    refine ⟨h.div c0 c1, by omega, h.div c0 c1, ?_⟩
    rintro _ rfl
    rw [subI_ (by omega) (by omega)]
    simp [c2, offW]
set_option maxRecDepth 10000 in
theorem sdrop_ok : conSDrop.ok KN Tryd.prog 56 := by
  refine Con.of_vc ([]) ([]) ([]) TT_ok follows Tryd.func56 ?_ G31_ok (@toVC _ _ sdrop_vc ?_)
  · kernel_rfl
  · kernel_rfl
noncomputable def G32 : List (FuncId × Con) := (56, conSDrop) :: G31
theorem G32_ok : GOK KN Tryd.prog G32 := GOK.cons (Callable.of Tryd.func56 (by kernel_rfl) (by kernel_rfl)) sdrop_ok G31_ok

set_option maxRecDepth 10000 in
theorem snew_vc :
  ∀ x0 : Int,
 True →
 ∀ x1 : Int,
 (x1 = if (4096 : Int) < x0 then (4096 : Int) else x0) →
 ∀ x2 : Int,
 (x2 = if (0 : Int) < x1 then x1 else (0 : Int)) →
 ∀ x3 : Int,
 (x3 = litArith BinOp.add IntKind.i64 x2 (63 : Int)) →
 ∀ x4 : Int,
 (x4 = litArith BinOp.quo IntKind.i64 x3 (64 : Int)) →
 (((0 : Int) ≤ x4) ∧
 (x4 * (8 : Int) ≤ (140737488355328 : Int))) ∧
 ((True) ∧
 ((x2 = (↑(cut4096 x0) : Int)) ∧
 (((0 : Int) = (0 : Int)) ∧
 ((List.replicate (Int.toNat x4) (0 : Int) = List.replicate ((cut4096 x0 + (63 : Nat)) / (64 : Nat)) (0 : Int)) ∧
 ((x4 = (↑(List.length (List.replicate ((cut4096 x0 + (63 : Nat)) / (64 : Nat)) (0 : Int))) : Int)) ∧
       (True)))))) := by
  rintro n -
  simp only [gtrT, gtrF, lssT, lssF, leqT, leqF, geqT, geqF, eqlT, eqlF, neqT, neqF, true_and, and_true, true_implies, implies_true, Bool.not_eq_true', Bool.not_eq_false', bne_iff_ne, ne_eq, not_true_eq_false, not_false_eq_true, Int.toNat_natCast, same_self, reduceCtorEq, false_implies, List.nil_append]
  rintro _ rfl _ rfl
  rw [cutmm]
  have hc := cut_le n
  rintro _ rfl
  rw [addI_ (by omega) (by omega)]
  rintro _ rfl
  rw [quo64_ (by omega) (by omega)]
  have e : ((cut4096 n : Int) + 63) / 64 = (((cut4096 n + 63) / 64 : Nat) : Int) := by omega
  rw [e]
  simp
  omega
set_option maxRecDepth 10000 in
theorem snew_ok : conSNew.ok KN Tryd.prog 48 := by
  refine Con.of_vc ([]) ([]) ([]) TT_ok follows Tryd.func48 ?_ G32_ok (@toVC _ _ snew_vc ?_)
  · kernel_rfl
  · kernel_rfl
noncomputable def G33 : List (FuncId × Con) := (48, conSNew) :: G32
theorem G33_ok : GOK KN Tryd.prog G33 := GOK.cons (Callable.of Tryd.func48 (by kernel_rfl) (by kernel_rfl)) snew_ok G32_ok

set_option maxRecDepth 10000 in
theorem sfind_vc :
  ∀ x0 : Int,
 ∀ x1 : Int,
 ∀ x2 : Int,
 ∀ x3 : Int,
 ∀ x4 : List Int,
 ((IsS x2 x3 x4) ∧
 ((x0 < x2) ∧
 (x1 = (0 : Int) ∨ x1 = (18446744073709551615 : Int)))) →
 ∀ x5 : Int,
 (x5 = if x0 < (0 : Int) then (0 : Int) else x0) →
 ∀ x6 : Int,
 (x6 = litArith BinOp.quo IntKind.i64 x5 (64 : Int)) →
 ∃ x7 : Int → Prop,
 ∃ x8 : Int → Nat,
 (x7 x6) ∧
 (∀ x9 : Int,
 (x7 x9) →
 ((litCmp BinOp.lss x9 (↑(List.length x4) : Int) = true) →
 (((0 : Int) ≤ x9) ∧
 (x9 < (↑(List.length x4) : Int))) ∧
 (∀ x10 : Int,
 (x10 = ix x4 x9) →
 ∀ x11 : Int,
 (x11 = litArith BinOp.xor IntKind.u64 x10 x1) →
 ∀ x12 : Int,
 (x12 = litArith BinOp.quo IntKind.i64 x5 (64 : Int)) →
 ((litCmp BinOp.eql x9 x12 = true) →
 ∀ x13 : Int,
 (x13 = litArith BinOp.rem IntKind.i64 x5 (64 : Int)) →
 ((0 : Int) ≤ x13) ∧
 (∀ x14 : Int,
 (x14 = litArith BinOp.shr IntKind.u64 x11 x13) →
 ∀ x15 : Int,
 (x15 = litArith BinOp.rem IntKind.i64 x5 (64 : Int)) →
 ((0 : Int) ≤ x15) ∧
 (∀ x16 : Int,
 (x16 = litArith BinOp.shl IntKind.u64 x14 x15) →
 ((litCmp BinOp.neq x16 (0 : Int) = true) →
 ∀ x17 : Int,
 (x17 = litArith BinOp.mul IntKind.i64 (64 : Int) x9) →
 (u64ok x16) ∧
 (True →
 ∀ x18 : Int,
 (x18 = litArith BinOp.add IntKind.i64 x17 (↑(Lib.ctz (64 : Nat) (Int.toNat x16)) : Int)) →
 ∃ x19 : Int,
 ∃ x20 : Bool,
 (FindPost x0 x1 x2 x4 x19 x20) ∧
 ((x18 = x19) ∧
 ((litCmp BinOp.lss x18 x2 = x20) ∧
 ((x2 = x2) ∧
 ((x3 = x3) ∧
 ((x4 = x4) ∧
 (((↑(List.length x4) : Int) = (↑(List.length x4) : Int)) ∧
 (True))))))))) ∧
 ((litCmp BinOp.neq x16 (0 : Int) = false) →
 ∀ x21 : Int,
 (x21 = litArith BinOp.add IntKind.i64 x9 (1 : Int)) →
 (x5 = x5) ∧
 ((x1 = x1) ∧
 ((x2 = x2) ∧
 ((x3 = x3) ∧
 ((x4 = x4) ∧
 (((↑(List.length x4) : Int) = (↑(List.length x4) : Int)) ∧
 ((x7 x21) ∧
 (x8 x21 < x8 x9))))))))))) ∧
 ((litCmp BinOp.eql x9 x12 = false) →
 ((litCmp BinOp.neq x11 (0 : Int) = true) →
 ∀ x22 : Int,
 (x22 = litArith BinOp.mul IntKind.i64 (64 : Int) x9) →
 (u64ok x11) ∧
 (True →
 ∀ x23 : Int,
 (x23 = litArith BinOp.add IntKind.i64 x22 (↑(Lib.ctz (64 : Nat) (Int.toNat x11)) : Int)) →
 ∃ x24 : Int,
 ∃ x25 : Bool,
 (FindPost x0 x1 x2 x4 x24 x25) ∧
 ((x23 = x24) ∧
 ((litCmp BinOp.lss x23 x2 = x25) ∧
 ((x2 = x2) ∧
 ((x3 = x3) ∧
 ((x4 = x4) ∧
 (((↑(List.length x4) : Int) = (↑(List.length x4) : Int)) ∧
 (True))))))))) ∧
 ((litCmp BinOp.neq x11 (0 : Int) = false) →
 ∀ x26 : Int,
 (x26 = litArith BinOp.add IntKind.i64 x9 (1 : Int)) →
 (x5 = x5) ∧
 ((x1 = x1) ∧
 ((x2 = x2) ∧
 ((x3 = x3) ∧
 ((x4 = x4) ∧
 (((↑(List.length x4) : Int) = (↑(List.length x4) : Int)) ∧
 ((x7 x26) ∧
 (x8 x26 < x8 x9))))))))))) ∧
 ((litCmp BinOp.lss x9 (↑(List.length x4) : Int) = false) →
 ∃ x27 : Int,
 ∃ x28 : Bool,
 (FindPost x0 x1 x2 x4 x27 x28) ∧
 (((0 : Int) = x27) ∧
 ((false = x28) ∧
 ((x2 = x2) ∧
 ((x3 = x3) ∧
 ((x4 = x4) ∧
 (((↑(List.length x4) : Int) = (↑(List.length x4) : Int)) ∧
          (True))))))))) := by
  rintro k about size count ws ⟨⟨l, h⟩, hk, ha⟩
  have hl := h.len
  simp only [gtrT, gtrF, lssT, lssF, leqT, leqF, geqT, geqF, eqlT, eqlF, neqT, neqF, true_and, and_true, true_implies, implies_true, Bool.not_eq_true', Bool.not_eq_false', bne_iff_ne, ne_eq, not_true_eq_false, not_false_eq_true, Int.toNat_natCast, same_self, reduceCtorEq, false_implies, List.nil_append]
  rintro _ rfl
  have hmx : (if k < 0 then (0 : Int) else k) = max k 0 := by split <;> omega
  rw [hmx]
  have hq : litArith .quo .i64 (max k 0) 64 = max k 0 / 64 := quo64_ (by omega) (by omega)
  have hr : litArith .rem .i64 (max k 0) 64 = max k 0 % 64 := rem64_ (by omega)
  rw [hq, hr]
  rintro _ rfl
  refine ⟨fun w => max k 0 / 64 ≤ w ∧ (∀ j, max k 0 ≤ j → j < 64 * w → qW ws about j = false), fun w => ((ws.length : Int) - w).toNat, ⟨by omega, fun j j0 j1 => by omega⟩, ?_⟩
  rintro w ⟨w0, hpre⟩
  have w00 : 0 ≤ w := by omega
  refine ⟨fun w1 => ⟨⟨w00, w1⟩, ?_⟩, fun w1 => ?_⟩
  · rintro _ rfl _ rfl _ rfl
    have hmul : litArith .mul .i64 64 w = 64 * w := mulI_ (by omega) (by omega)
    have hadd : litArith .add .i64 w 1 = w + 1 := addI_ (by omega) (by omega)
    have hs : ∀ y : Int, y ≠ 0 → u64ok y → litArith .add .i64 (64 * w) (Lib.ctz 64 y.toNat : Nat) = 64 * w + (Lib.ctz 64 y.toNat : Nat) := fun y hy hu => by
      have := (ctz_spec (n := y.toNat) (by have := hu.2; have := hu.1; omega) (by have := hu.1; omega)).1
      exact addI_ (by omega) (by omega)
    refine ⟨fun e => ?_, fun e => ?_⟩
    · rintro _ rfl
      refine ⟨by omega, ?_⟩
      rintro _ rfl _ rfl
      refine ⟨by omega, ?_⟩
      rintro _ rfl
      have hw := word_first h ha w00 w1 e
      refine ⟨fun hy => ?_, fun hy => ?_⟩
      · rintro _ rfl
        refine ⟨hw.u, ?_⟩
        rintro _ rfl
        rw [hmul, hs _ hy hw.u]
        exact ⟨_, _, hw.hit ⟨w00, w1⟩ hy hpre, rfl, rfl⟩
      · rintro _ rfl
        rw [hadd]
        exact ⟨⟨by omega, hw.miss hy hpre⟩, meas w1⟩
    · have hw := word_next h ha w00 w1 (k := k) (by omega)
      refine ⟨fun hy => ?_, fun hy => ?_⟩
      · rintro _ rfl
        refine ⟨hw.u, ?_⟩
        rintro _ rfl
        rw [hmul, hs _ hy hw.u]
        exact ⟨_, _, hw.hit ⟨w00, w1⟩ hy hpre, rfl, rfl⟩
      · rintro _ rfl
        rw [hadd]
        exact ⟨⟨by omega, hw.miss hy hpre⟩, meas w1⟩
  · exact ⟨_, _, .inr ⟨fun j j0 j1 => hpre j j0 (by omega), rfl, rfl⟩, rfl, rfl⟩
set_option maxRecDepth 10000 in
theorem sfind_ok : conSFind.ok KN Tryd.prog 75 := by
  refine Con.of_vc ([(0, ⟨[], [(8, .d (.i .i64))], [], [], []⟩)]) ([]) ([]) TT_ok follows Tryd.func75 ?_ G33_ok (@toVC _ _ sfind_vc ?_)
  · kernel_rfl
  · kernel_rfl
noncomputable def G34 : List (FuncId × Con) := (75, conSFind) :: G33
theorem G34_ok : GOK KN Tryd.prog G34 := GOK.cons (Callable.of Tryd.func75 (by kernel_rfl) (by kernel_rfl)) sfind_ok G33_ok

set_option maxRecDepth 10000 in
theorem sheld_vc :
  ∀ x0 : Int,
 ∀ x1 : Bool,
 True →
 (((!x1) = true) →
 (True) ∧
 (((0 : Int) = heldC x0 x1) ∧
 ((false = x1) ∧
 (True)))) ∧
 (((!x1) = false) →
 (True) ∧
 ((x0 = heldC x0 x1) ∧
 ((true = x1) ∧
     (True)))) := by
  intro k ok
  simp only [gtrT, gtrF, lssT, lssF, leqT, leqF, geqT, geqF, eqlT, eqlF, neqT, neqF, true_and, and_true, true_implies, implies_true, Bool.not_eq_true', Bool.not_eq_false', bne_iff_ne, ne_eq, not_true_eq_false, not_false_eq_true, Int.toNat_natCast, same_self, reduceCtorEq, false_implies, List.nil_append]
  unfold heldC
  cases ok <;> simp
set_option maxRecDepth 10000 in
theorem sheld_ok : conHeld.ok KN Tryd.prog 74 := by
  refine Con.of_vc ([]) ([]) ([]) TT_ok follows Tryd.func74 ?_ G34_ok (@toVC _ _ sheld_vc ?_)
  · kernel_rfl
  · kernel_rfl
noncomputable def G35 : List (FuncId × Con) := (74, conHeld) :: G34
theorem G35_ok : GOK KN Tryd.prog G35 := GOK.cons (Callable.of Tryd.func74 (by kernel_rfl) (by kernel_rfl)) sheld_ok G34_ok

noncomputable def G36 : List (FuncId × Con) := G35
theorem G36_ok : GOK KN Tryd.prog G36 := G35_ok

set_option maxRecDepth 10000 in
theorem sgap_vc :
  ∀ x0 : Int,
 ∀ x1 : Int,
 ∀ x2 : Int,
 ∀ x3 : List Int,
 (IsS x1 x2 x3) →
 ((litCmp BinOp.geq x0 x1 = true) →
 ∃ x4 : Int,
 ∃ x5 : Bool,
 (NextP (fun (i : Int) => !bitW x3 i) x0 x1 x4 x5) ∧
 (((0 : Int) = x4) ∧
 ((false = x5) ∧
 ((x1 = x1) ∧
 ((x2 = x2) ∧
 ((x3 = x3) ∧
 (((↑(List.length x3) : Int) = (↑(List.length x3) : Int)) ∧
 (True)))))))) ∧
 ((litCmp BinOp.geq x0 x1 = false) →
 ((IsS x1 x2 x3) ∧
 ((x0 < x1) ∧
 ((18446744073709551615 : Int) = (0 : Int) ∨ (18446744073709551615 : Int) = (18446744073709551615 : Int)))) ∧
 (∀ x6 : Int,
 ∀ x7 : Bool,
 (FindPost x0 (18446744073709551615 : Int) x1 x3 x6 x7) →
 (True) ∧
 (True →
 ∃ x8 : Int,
 ∃ x9 : Bool,
 (NextP (fun (i : Int) => !bitW x3 i) x0 x1 x8 x9) ∧
 ((heldC x6 x7 = x8) ∧
 ((x7 = x9) ∧
 ((x1 = x1) ∧
 ((x2 = x2) ∧
 ((x3 = x3) ∧
 (((↑(List.length x3) : Int) = (↑(List.length x3) : Int)) ∧
           (True)))))))))) := by
  rintro k size count ws ⟨l, h⟩
  have hl := h.len
  simp only [gtrT, gtrF, lssT, lssF, leqT, leqF, geqT, geqF, eqlT, eqlF, neqT, neqF, true_and, and_true, true_implies, implies_true, Bool.not_eq_true', Bool.not_eq_false', bne_iff_ne, ne_eq, not_true_eq_false, not_false_eq_true, Int.toNat_natCast, same_self, reduceCtorEq, false_implies, List.nil_append]
  have e : (fun i => !bitW ws i) = fun i => qW ws 18446744073709551615 i := by funext i; simp [qW]
  rw [e]
  refine ⟨fun c => ⟨_, _, .inr ⟨rfl, rfl, fun j j0 j1 => by omega⟩, rfl, rfl⟩, fun c => ⟨⟨⟨l, h⟩, c, by simp⟩, fun o b ho => ⟨_, _, ?_, rfl, rfl⟩⟩⟩
  exact find_next (by omega) ho
set_option maxRecDepth 10000 in
theorem sgap_ok : conSGap.ok KN Tryd.prog 51 := by
  refine Con.of_vc ([]) ([]) ([]) TT_ok follows Tryd.func51 ?_ G36_ok (@toVC _ _ sgap_vc ?_)
  · kernel_rfl
  · kernel_rfl
noncomputable def G37 : List (FuncId × Con) := (51, conSGap) :: G36
theorem G37_ok : GOK KN Tryd.prog G37 := GOK.cons (Callable.of Tryd.func51 (by kernel_rfl) (by kernel_rfl)) sgap_ok G36_ok
end Go.Proofs.YtplefbcgpbdkfaaDoor
/- Package bits: contracts over whole sets. -/
namespace Go.Proofs.YtplefbcgpbdkfaaDoor
open Go Go.Fx
-- ENV: KN
abbrev obS (l : List Bool) : Ob := ⟨true, .one 4, .sl .bo, l⟩
def hasL (l : List Bool) (k : Int) : Bool := decide (0 ≤ k) && (decide (k < l.length) && ix l k)
def putL (l : List Bool) (k : Int) : Bool := decide (0 ≤ k) && (decide (k < l.length) && !ix l k)
def setL (l : List Bool) (k : Int) (b : Bool) : List Bool := l.set k.toNat b
def conS1Has : Con := mkConO [.is (.obj 0), .d (.i .i64)] [] [] [(.one 4, .sl .bo)] (fun (k : Int) (l : List Bool) => True) [] (constX True _) (fun (k : Int) (l : List Bool) => bb (hasL l k)) (constX [] _) (constX [] _) (fun (k : Int) (l : List Bool) => [obS l])
def conS1Count : Con := mkConO [.is (.obj 0)] [] [] [(.one 4, .sl .bo)] (fun (l : List Bool) => True) [] (constX True _) (fun (l : List Bool) => i64 (nt l)) (constX [] _) (constX [] _) (fun (l : List Bool) => [obS l])
def conS1Put : Con := mkConO [.is (.obj 0), .d (.i .i64)] [] [] [(.one 4, .sl .bo)] (fun (k : Int) (l : List Bool) => True) [] (constX True _) (fun (k : Int) (l : List Bool) => bb (putL l k)) (constX [] _) (constX [] _) (fun (k : Int) (l : List Bool) => [obS (if putL l k then setL l k true else l)])
def conS1Drop : Con := mkConO [.is (.obj 0), .d (.i .i64)] [] [] [(.one 4, .sl .bo)] (fun (k : Int) (l : List Bool) => True) [] (constX True _) (fun (k : Int) (l : List Bool) => bb (hasL l k)) (constX [] _) (constX [] _) (fun (k : Int) (l : List Bool) => [obS (if hasL l k then setL l k false else l)])
def conS1Next : Con := mkConO [.is (.obj 0), .d (.i .i64)] [] [] [(.one 4, .sl .bo)] (fun (k : Int) (l : List Bool) => True) [.i .i64, .bo] (fun (k : Int) (l : List Bool) (o : Int) (b : Bool) => NextP (ix l) k l.length o b) (fun (k : Int) (l : List Bool) (o : Int) (b : Bool) => .tup [i64 o, bb b]) (constX [] _) (constX [] _) (fun (k : Int) (l : List Bool) (o : Int) (b : Bool) => [obS l])
def conS1Gap : Con := mkConO [.is (.obj 0), .d (.i .i64)] [] [] [(.one 4, .sl .bo)] (fun (k : Int) (l : List Bool) => True) [.i .i64, .bo] (fun (k : Int) (l : List Bool) (o : Int) (b : Bool) => NextP (fun i => !ix l i) k l.length o b) (fun (k : Int) (l : List Bool) (o : Int) (b : Bool) => .tup [i64 o, bb b]) (constX [] _) (constX [] _) (fun (k : Int) (l : List Bool) (o : Int) (b : Bool) => [obS l])
def conS1New : Con := mkConO [.d (.i .i64)] [] [] [] (fun (n : Int) => True) [] (constX True _) (constX (.obj 0) _) (constX [] _) (constX [] _) (fun (n : Int) => [obS (List.replicate (cut4096 n) false)])
section
variable {l : List Bool} {size count k : Int} {ws : List Int}
theorem nt_set : ∀ {l : List Bool} {n : Nat} {b : Bool} (h : n < l.length), nt (l.set n b) = nt l + (if b then 1 else 0) - (if l[n] then 1 else 0)
  | a :: l, 0, b, h => by
    simp only [List.set_cons_zero, List.getElem_cons_zero]
    unfold nt
    cases a <;> cases b <;> simp <;> omega
  | a :: l, n + 1, b, h => by
    have ih := nt_set (l := l) (n := n) (b := b) (by simpa using h)
    simp only [List.set_cons_succ, List.getElem_cons_succ]
    unfold nt at ih ⊢
    cases a <;> simp at ih ⊢ <;> omega
theorem SetR.hasE (h : SetR l size count ws) (k : Int) : hasW size ws k = hasL l k := by
  unfold hasW hasL
  rw [h.size]
  by_cases c : 0 ≤ k ∧ k < l.length
  · rw [h.bits k c.1 c.2]
  · by_cases c0 : 0 ≤ k
    · have c1 : ¬ k < l.length := fun e => c ⟨c0, e⟩
      simp [c1]
    · simp [c0]
theorem SetR.putE (h : SetR l size count ws) (k : Int) : putB size ws k = putL l k := by
  unfold putB putL
  rw [h.size]
  by_cases c : 0 ≤ k ∧ k < l.length
  · rw [h.bits k c.1 c.2]
  · by_cases c0 : 0 ≤ k
    · have c1 : ¬ k < l.length := fun e => c ⟨c0, e⟩
      simp [c1]
    · simp [c0]
theorem SetR.upd {b : Bool} {y : Nat} {count' : Int} (h : SetR l size count ws) (k0 : 0 ≤ k) (k1 : k < l.length) (hy : y < 18446744073709551616) (hb : ∀ r : Nat, r < 64 → y.testBit r = if (k % 64).toNat = r then b else (ix ws (k / 64)).toNat.testBit r) (hc : count' = nt (setL l k b)) :
    SetR (setL l k b) size count' (ws.set (k / 64).toNat (y : Int)) := by
  have hl : (setL l k b).length = l.length := by unfold setL; rw [List.length_set]
  obtain ⟨d0, d1⟩ := h.div k0 (by rw [h.size]; exact k1)
  refine ⟨by rw [hl, h.size], by rw [hl]; exact h.le, hc, by rw [hl, List.length_set, h.words], fun j j0 j1 => ?_, fun i i0 i1 => ?_⟩
  · rw [List.length_set] at j1
    rw [ix_set d0 d1 j0]
    split
    · exact ⟨by omega, by omega⟩
    · exact h.u64 j j0 j1
  · rw [hl] at i1
    unfold bitW setL
    rw [ix_set d0 d1 (by omega), ix_set k0 k1 i0]
    have hbi := h.bits i i0 i1
    unfold bitW at hbi
    by_cases c : k / 64 = i / 64
    · rw [if_pos c, Int.toNat_natCast, hb _ (by omega), c, hbi]
      by_cases e : k = i
      · subst e; rw [if_pos rfl, if_pos rfl]
      · rw [if_neg e, if_neg (by omega)]
    · rw [if_neg c, if_neg (fun e => c (by rw [e])), hbi]
theorem ix_lt {α : Type} [Inhabited α] {l : List α} {k : Int} (k0 : 0 ≤ k) (k1 : k < l.length) : ∃ h : k.toNat < l.length, ix l k = l[k.toNat] := by
  have h : k.toNat < l.length := by omega
  refine ⟨h, ?_⟩
  unfold ix
  rw [List.getD_eq_getElem?_getD, List.getElem?_eq_getElem h]
  rfl
theorem SetR.putS (h : SetR l size count ws) (hp : putL l k = true) : SetR (setL l k true) size (count + 1) (orW ws k) := by
  unfold putL at hp
  simp only [Bool.and_eq_true, decide_eq_true_eq, Bool.not_eq_true'] at hp
  obtain ⟨k0, k1, hk⟩ := hp
  obtain ⟨d0, d1⟩ := h.div k0 (by rw [h.size]; exact k1)
  obtain ⟨u0, u1⟩ := h.u64 _ d0 d1
  refine h.upd k0 k1 (Nat.or_lt_two_pow (n := 64) (by omega) (by have := p64 (k := (k % 64).toNat) (by omega); simpa using this)) (fun r hr => ?_) ?_
  · rw [Nat.testBit_or, Nat.testBit_two_pow]
    by_cases e : (k % 64).toNat = r
    · rw [if_pos e]; simp [e]
    · rw [if_neg e]; simp [e]
  · obtain ⟨hh, e⟩ := ix_lt k0 k1
    rw [e] at hk
    unfold setL
    rw [nt_set hh, hk, h.count]
    simp
theorem SetR.dropS (h : SetR l size count ws) (hp : hasL l k = true) : SetR (setL l k false) size (count - 1) (offW ws k) := by
  unfold hasL at hp
  simp only [Bool.and_eq_true, decide_eq_true_eq] at hp
  obtain ⟨k0, k1, hk⟩ := hp
  obtain ⟨d0, d1⟩ := h.div k0 (by rw [h.size]; exact k1)
  obtain ⟨u0, u1⟩ := h.u64 _ d0 d1
  have hb := h.bits k k0 k1
  rw [hk] at hb
  unfold bitW at hb
  refine h.upd k0 k1 (Nat.xor_lt_two_pow (n := 64) (by omega) (by have := p64 (k := (k % 64).toNat) (by omega); simpa using this)) (fun r hr => ?_) ?_
  · rw [Nat.testBit_xor, Nat.testBit_two_pow]
    by_cases e : (k % 64).toNat = r
    · rw [if_pos e, ← e, hb]; simp
    · rw [if_neg e]; simp [e]
  · obtain ⟨hh, e⟩ := ix_lt k0 k1
    rw [e] at hk
    unfold setL
    rw [nt_set hh, hk, h.count]
    simp
theorem SetR.new (n : Nat) (hn : n ≤ 4096) : SetR (List.replicate n false) n 0 (List.replicate ((n + 63) / 64) 0) := by
  refine ⟨by simp, by simpa using hn, ?_, ?_, fun j j0 j1 => ?_, fun i i0 i1 => ?_⟩
  · unfold nt
    rw [List.filter_replicate]
    simp
  · simp only [List.length_replicate]; omega
  · rw [List.length_replicate] at j1
    rw [ix_rep j0 j1]
    exact ⟨by omega, by omega⟩
  · rw [List.length_replicate] at i1
    unfold bitW
    rw [ix_rep i0 i1, ix_rep (by omega) (by omega)]
    simp
theorem NextP.congr {q q' : Int → Bool} {n o : Int} {b : Bool} (h : NextP q k n o b) (e : ∀ i, 0 ≤ i → i < n → q i = q' i) : NextP q' k n o b := by
  rcases h with ⟨rfl, h0, h1, h2, h3⟩ | ⟨rfl, rfl, h3⟩
  · exact .inl ⟨rfl, h0, h1, by rw [← e o (by omega) h1]; exact h2, fun j j0 j1 => by rw [← e j (by omega) (by omega)]; exact h3 j j0 j1⟩
  · exact .inr ⟨rfl, rfl, fun j j0 j1 => by rw [← e j (by omega) j1]; exact h3 j j0 j1⟩
end
end Go.Proofs.YtplefbcgpbdkfaaDoor
/- Package bits: the contracts over whole sets hold. -/
namespace Go.Proofs.YtplefbcgpbdkfaaDoor
open Go Go.Fx
-- ENV: KN

set_option maxRecDepth 10000 in
theorem s1has_vc :
  ∀ x0 : Int,
 ∀ x1 : List Bool,
 True →
 ∀ x2 : Int,
 ∀ x3 : Int,
 ∀ x4 : List Int,
 (SetR x1 x2 x3 x4) →
 (IsS x2 x3 x4) ∧
 (True →
 ∃ x5 : List Bool,
 (SetR x5 x2 x3 x4) ∧
 ((True) ∧
 ((hasW x2 x4 x0 = hasL x1 x0) ∧
 ((x5 = x1) ∧
      (True))))) := by
  intro k l _ size count ws h
  exact ⟨⟨l, h⟩, fun _ => ⟨l, h, trivial, h.hasE k, rfl, trivial⟩⟩
set_option maxRecDepth 10000 in
theorem s1has_ok : conS1Has.ok KN Tryd.prog 53 := by
  refine Con.view_sound (op := .o 0 4) (back := true) (res := .none) shas_ok rfl (@toVC _ _ s1has_vc ?_)
  kernel_rfl
noncomputable def G38 : List (FuncId × Con) := (53, conS1Has) :: G37
theorem G38_ok : GOK KN Tryd.prog G38 := GOK.cons (Callable.of Tryd.func53 (by kernel_rfl) (by kernel_rfl)) s1has_ok G37_ok

set_option maxRecDepth 10000 in
theorem s1count_vc :
  ∀ x0 : List Bool,
 True →
 ∀ x1 : Int,
 ∀ x2 : Int,
 ∀ x3 : List Int,
 (SetR x0 x1 x2 x3) →
 (True) ∧
 (True →
 ∃ x4 : List Bool,
 (SetR x4 x1 x2 x3) ∧
 ((True) ∧
 ((x2 = nt x0) ∧
 ((x4 = x0) ∧
      (True))))) := by
  intro l _ size count ws h
  exact ⟨trivial, fun _ => ⟨l, h, trivial, h.count, rfl, trivial⟩⟩
set_option maxRecDepth 10000 in
theorem s1count_ok : conS1Count.ok KN Tryd.prog 72 := by
  refine Con.view_sound (op := .o 0 4) (back := true) (res := .none) scount_ok rfl (@toVC _ _ s1count_vc ?_)
  kernel_rfl
noncomputable def G39 : List (FuncId × Con) := (72, conS1Count) :: G38
theorem G39_ok : GOK KN Tryd.prog G39 := GOK.cons (Callable.of Tryd.func72 (by kernel_rfl) (by kernel_rfl)) s1count_ok G38_ok

set_option maxRecDepth 10000 in
theorem s1put_vc :
  ∀ x0 : Int,
 ∀ x1 : List Bool,
 True →
 ∀ x2 : Int,
 ∀ x3 : Int,
 ∀ x4 : List Int,
 (SetR x1 x2 x3 x4) →
 (IsS x2 x3 x4) ∧
 (True →
 ∃ x5 : List Bool,
 (SetR x5 x2 (if putB x2 x4 x0 = true then x3 + (1 : Int) else x3) (if putB x2 x4 x0 = true then orW x4 x0 else x4)) ∧
 ((True) ∧
 ((putB x2 x4 x0 = putL x1 x0) ∧
 ((x5 = if putL x1 x0 = true then setL x1 x0 true else x1) ∧
      (True))))) := by
  intro k l _ size count ws h
  rw [h.putE k]
  refine ⟨⟨l, h⟩, fun _ => ⟨_, ?_, trivial, rfl, rfl, trivial⟩⟩
  cases e : putL l k with
  | true => simpa using h.putS e
  | false => simpa using h
set_option maxRecDepth 10000 in
theorem s1put_ok : conS1Put.ok KN Tryd.prog 52 := by
  refine Con.view_sound (op := .o 0 4) (back := true) (res := .none) sput_ok rfl (@toVC _ _ s1put_vc ?_)
  kernel_rfl
noncomputable def G40 : List (FuncId × Con) := (52, conS1Put) :: G39
theorem G40_ok : GOK KN Tryd.prog G40 := GOK.cons (Callable.of Tryd.func52 (by kernel_rfl) (by kernel_rfl)) s1put_ok G39_ok

set_option maxRecDepth 10000 in
theorem s1drop_vc :
  ∀ x0 : Int,
 ∀ x1 : List Bool,
 True →
 ∀ x2 : Int,
 ∀ x3 : Int,
 ∀ x4 : List Int,
 (SetR x1 x2 x3 x4) →
 (IsS x2 x3 x4) ∧
 (True →
 ∃ x5 : List Bool,
 (SetR x5 x2 (if hasW x2 x4 x0 = true then x3 - (1 : Int) else x3) (if hasW x2 x4 x0 = true then offW x4 x0 else x4)) ∧
 ((True) ∧
 ((hasW x2 x4 x0 = hasL x1 x0) ∧
 ((x5 = if hasL x1 x0 = true then setL x1 x0 false else x1) ∧
      (True))))) := by
  intro k l _ size count ws h
  rw [h.hasE k]
  refine ⟨⟨l, h⟩, fun _ => ⟨_, ?_, trivial, rfl, rfl, trivial⟩⟩
  cases e : hasL l k with
  | true => simpa using h.dropS e
  | false => simpa using h
set_option maxRecDepth 10000 in
theorem s1drop_ok : conS1Drop.ok KN Tryd.prog 56 := by
  refine Con.view_sound (op := .o 0 4) (back := true) (res := .none) sdrop_ok rfl (@toVC _ _ s1drop_vc ?_)
  kernel_rfl
noncomputable def G41 : List (FuncId × Con) := (56, conS1Drop) :: G40
theorem G41_ok : GOK KN Tryd.prog G41 := GOK.cons (Callable.of Tryd.func56 (by kernel_rfl) (by kernel_rfl)) s1drop_ok G40_ok

noncomputable def G42 : List (FuncId × Con) := G41
theorem G42_ok : GOK KN Tryd.prog G42 := G41_ok

set_option maxRecDepth 10000 in
theorem s1gap_vc :
  ∀ x0 : Int,
 ∀ x1 : List Bool,
 True →
 ∀ x2 : Int,
 ∀ x3 : Int,
 ∀ x4 : List Int,
 (SetR x1 x2 x3 x4) →
 (IsS x2 x3 x4) ∧
 (∀ x5 : Int,
 ∀ x6 : Bool,
 (NextP (fun (i : Int) => !bitW x4 i) x0 x2 x5 x6) →
 ∃ x7 : List Bool,
 (SetR x7 x2 x3 x4) ∧
 (∃ x8 : Int,
 ∃ x9 : Bool,
 (NextP (fun (i : Int) => !ix x1 i) x0 (↑(List.length x1) : Int) x8 x9) ∧
 ((x5 = x8) ∧
 ((x6 = x9) ∧
 ((x7 = x1) ∧
       (True)))))) := by
  intro k l _ size count ws h
  refine ⟨⟨l, h⟩, fun o b ho => ⟨l, h, o, b, ?_, rfl, rfl, rfl, trivial⟩⟩
  rw [h.size] at ho
  exact ho.congr fun i i0 i1 => by rw [h.bits i i0 i1]
set_option maxRecDepth 10000 in
theorem s1gap_ok : conS1Gap.ok KN Tryd.prog 51 := by
  refine Con.view_sound (op := .o 0 4) (back := true) (res := .none) sgap_ok rfl (@toVC _ _ s1gap_vc ?_)
  kernel_rfl
noncomputable def G43 : List (FuncId × Con) := (51, conS1Gap) :: G42
theorem G43_ok : GOK KN Tryd.prog G43 := GOK.cons (Callable.of Tryd.func51 (by kernel_rfl) (by kernel_rfl)) s1gap_ok G42_ok

set_option maxRecDepth 10000 in
theorem s1new_vc :
  ∀ x0 : Int,
 True →
 (True) ∧
 (True →
 ∃ x1 : List Bool,
 (SetR x1 (↑(cut4096 x0) : Int) (0 : Int) (List.replicate ((cut4096 x0 + (63 : Nat)) / (64 : Nat)) (0 : Int))) ∧
 ((True) ∧
 ((x1 = List.replicate (cut4096 x0) false) ∧
     (True)))) := by
  intro n _
  exact ⟨trivial, fun _ => ⟨_, SetR.new _ (cut_le n), trivial, rfl, trivial⟩⟩
set_option maxRecDepth 10000 in
theorem s1new_ok : conS1New.ok KN Tryd.prog 48 := by
  refine Con.view_sound (op := .none) (back := false) (res := .o 4) snew_ok rfl (@toVC _ _ s1new_vc ?_)
  kernel_rfl
noncomputable def G44 : List (FuncId × Con) := (48, conS1New) :: G43
theorem G44_ok : GOK KN Tryd.prog G44 := GOK.cons (Callable.of Tryd.func48 (by kernel_rfl) (by kernel_rfl)) s1new_ok G43_ok
end Go.Proofs.YtplefbcgpbdkfaaDoor
/- Whole wheels; package slab: the contracts of a region's parts. -/
namespace Go.Proofs.YtplefbcgpbdkfaaDoor
open Go Go.Fx
-- ENV: KN
abbrev obW (w : Wh) : Ob := ⟨true, .one 2, tpWh, w⟩
abbrev opW : OK × Tp := (.one 2, tpWh)
def conW1Now : Con := mkConO [.is (.obj 0)] [] [] [opW] (fun (w : Wh) => True) [] (constX True _) (fun (w : Wh) => u64 w.2) (constX [] _) (constX [] _) (fun (w : Wh) => [obW w])
def conW1Len : Con := mkConO [.is (.obj 0)] [] [] [opW] (fun (w : Wh) => True) [] (constX True _) (fun (w : Wh) => i64 (lenR w.1)) (constX [] _) (constX [] _) (fun (w : Wh) => [obW w])
def conW1Unset : Con := mkConO [.is (.obj 0), .d (.i .i64)] [] [] [opW] (fun (k : Int) (w : Wh) => True) [] (constX True _) (fun (k : Int) (w : Wh) => bb (unsetR w k).2) (constX [] _) (constX [] _) (fun (k : Int) (w : Wh) => [obW (unsetR w k).1])
def conW1Set : Con := mkConO [.is (.obj 0), .d (.i .i64), .d (.i .u64), .d (.i .u64)] [] [] [opW] (fun (k at_ turn : Int) (w : Wh) => u64ok at_ ∧ u64ok turn) [] (constX True _) (fun (k at_ turn : Int) (w : Wh) => bb (setR w k at_ turn).2) (constX [] _) (constX [] _) (fun (k at_ turn : Int) (w : Wh) => [obW (setR w k at_ turn).1])
def conW1To : Con := mkConO [.is (.obj 0), .d (.i .u64)] [] [] [opW] (fun (to : Int) (w : Wh) => u64ok to) [] (constX True _) (constX (.own 0) _) (constX [] _) (fun (to : Int) (w : Wh) => [mkRow 3 (.i .i64) (outR w to)]) (fun (to : Int) (w : Wh) => [obW (toR w to)])
def conW1New : Con := mkConO [.d (.i .i64), .d (.i .u64)] [] [] [] (fun (n now : Int) => u64ok now) [] (constX True _) (constX (.obj 0) _) (constX [] _) (constX [] _) (fun (n now : Int) => [obW (List.replicate (cut4096 n) (false, 0, 0), now)])

def fxRm (l : List Rw) : Row := ⟨true, true, 54, tpRw, .s (l.length : Int), l⟩
def vRv : Var := ⟨true, .ls [.own 0, .obj 0]⟩
abbrev opS : OK × Tp := (.one 4, .sl .bo)
structure IsR (room : List Rw) (l : List Bool) : Prop where
  len : room.length = l.length
  le : l.length ≤ 4096
abbrev noRw : Rw := (0, 0, 0, 0)
def conGRoom : Con := mkConO [.is (.lp 0 0)] [vR] [rRm] [opS] (fun (room : List Rw) (l : List Bool) => IsR room l) [] (constX True _) (fun (room : List Rw) (l : List Bool) => i64 room.length) (constX [vRv] _) (fun (room : List Rw) (l : List Bool) => [fxRm room]) (fun (room : List Rw) (l : List Bool) => [obS l])
def conGCount : Con := mkConO [.is (.lp 0 0)] [vR] [rRm] [opS] (fun (room : List Rw) (l : List Bool) => IsR room l) [] (constX True _) (fun (room : List Rw) (l : List Bool) => i64 (nt l)) (constX [vRv] _) (fun (room : List Rw) (l : List Bool) => [fxRm room]) (fun (room : List Rw) (l : List Bool) => [obS l])
def conGHas : Con := mkConO [.is (.lp 0 0), .d (.i .i64)] [vR] [rRm] [opS] (fun (k : Int) (room : List Rw) (l : List Bool) => IsR room l) [] (constX True _) (fun (k : Int) (room : List Rw) (l : List Bool) => bb (hasL l k)) (constX [vRv] _) (fun (k : Int) (room : List Rw) (l : List Bool) => [fxRm room]) (fun (k : Int) (room : List Rw) (l : List Bool) => [obS l])
def conGTake : Con := mkConO [.is (.lp 0 0), .d tpRw] [vR] [rRm] [opS] (fun (v : Rw) (room : List Rw) (l : List Bool) => IsR room l) [.i .i64, .bo] (fun (v : Rw) (room : List Rw) (l : List Bool) (k : Int) (b : Bool) => NextP (fun i => !ix l i) 0 l.length k b) (fun (v : Rw) (room : List Rw) (l : List Bool) (k : Int) (b : Bool) => .tup [i64 k, bb b]) (constX [vRv] _)
  (fun (v : Rw) (room : List Rw) (l : List Bool) (k : Int) (b : Bool) => [fxRm (if b then room.set k.toNat v else room)]) (fun (v : Rw) (room : List Rw) (l : List Bool) (k : Int) (b : Bool) => [obS (if b then setL l k true else l)])
def conGGive : Con := mkConO [.is (.lp 0 0), .d (.i .i64)] [vR] [rRm] [opS] (fun (k : Int) (room : List Rw) (l : List Bool) => IsR room l) [] (constX True _) (fun (k : Int) (room : List Rw) (l : List Bool) => bb (hasL l k)) (constX [vRv] _)
  (fun (k : Int) (room : List Rw) (l : List Bool) => [fxRm (if hasL l k then room.set k.toNat noRw else room)]) (fun (k : Int) (room : List Rw) (l : List Bool) => [obS (if hasL l k then setL l k false else l)])
def conGAt : Con := mkConO [.is (.lp 0 0), .d (.i .i64)] [vR] [rRm] [opS] (fun (k : Int) (room : List Rw) (l : List Bool) => IsR room l) [] (constX True _) (fun (k : Int) (room : List Rw) (l : List Bool) => .tup [.x tpRw (if hasL l k then ix room k else noRw), bb (hasL l k)]) (constX [vRv] _)
  (fun (k : Int) (room : List Rw) (l : List Bool) => [fxRm room]) (fun (k : Int) (room : List Rw) (l : List Bool) => [obS l])
def conGSet : Con := mkConO [.is (.lp 0 0), .d (.i .i64), .d tpRw] [vR] [rRm] [opS] (fun (k : Int) (v : Rw) (room : List Rw) (l : List Bool) => IsR room l) [] (constX True _) (fun (k : Int) (v : Rw) (room : List Rw) (l : List Bool) => bb (hasL l k)) (constX [vRv] _)
  (fun (k : Int) (v : Rw) (room : List Rw) (l : List Bool) => [fxRm (if hasL l k then room.set k.toNat v else room)]) (fun (k : Int) (v : Rw) (room : List Rw) (l : List Bool) => [obS l])
end Go.Proofs.YtplefbcgpbdkfaaDoor
/- Whole wheels; package slab: the code keeps the contracts of a region's parts. -/
namespace Go.Proofs.YtplefbcgpbdkfaaDoor
open Go Go.Fx
-- ENV: KN
theorem onKN {k : Con} {P : Program} {g : FuncId} (h : k.ok KK P g) (h1 : k.objs = []) (h2 : ∀ us os, k.objs' us os = []) : k.ok KN P g := h.lift h1 h2 rfl

noncomputable def G45 : List (FuncId × Con) := G44
theorem G45_ok : GOK KN Tryd.prog G45 := G44_ok

set_option maxRecDepth 10000 in
theorem w1len_vc :
  ∀ x0 : (List (Bool × (Int × Int)) × Int),
 True →
 ∀ x1 : Int,
 ∀ x2 : Int,
 ∀ x3 : Int,
 ∀ x4 : Int,
 ∀ x5 : Int,
 ∀ x6 : List (Int × (Int × Int)),
 ∀ x7 : List (Int × (Int × Int)),
 ∀ x8 : List (Int × Int),
 (RepW x0 x1 x2 x3 x4 x5 x6 x7 x8) →
 (IsW x1 x2 x3 x4 x5 x6 x7 x8) ∧
 (True →
 ∃ x9 : (List (Bool × (Int × Int)) × Int),
 (RepW x9 x1 x2 x3 x4 x5 x6 x7 x8) ∧
 ((True) ∧
 ((lenW x2 x3 x4 x5 x7 = lenR (Prod.fst x0)) ∧
 ((x9 = x0) ∧
      (True))))) := by
  intro w _ now c0 c1 c2 c3 L E M h
  exact ⟨h.is, fun _ => ⟨w, h, trivial, h.len_eq, rfl, trivial⟩⟩
set_option maxRecDepth 10000 in
theorem w1len_ok : conW1Len.ok KN Tryd.prog 45 := by
  refine Con.view_sound (op := .o 0 2) (back := true) (res := .none) (onKN wlen_ok rfl fun _ _ => rfl) rfl (@toVC _ _ w1len_vc ?_)
  kernel_rfl
noncomputable def G46 : List (FuncId × Con) := (45, conW1Len) :: G45
theorem G46_ok : GOK KN Tryd.prog G46 := GOK.cons (Callable.of Tryd.func45 (by kernel_rfl) (by kernel_rfl)) w1len_ok G45_ok

set_option maxRecDepth 10000 in
theorem w1unset_vc :
  ∀ x0 : Int,
 ∀ x1 : (List (Bool × (Int × Int)) × Int),
 True →
 ∀ x2 : Int,
 ∀ x3 : Int,
 ∀ x4 : Int,
 ∀ x5 : Int,
 ∀ x6 : Int,
 ∀ x7 : List (Int × (Int × Int)),
 ∀ x8 : List (Int × (Int × Int)),
 ∀ x9 : List (Int × Int),
 (RepW x1 x2 x3 x4 x5 x6 x7 x8 x9) →
 (IsW x2 x3 x4 x5 x6 x7 x8 x9) ∧
 (∀ x10 : Int,
 ∀ x11 : Int,
 ∀ x12 : Int,
 ∀ x13 : Int,
 ∀ x14 : List (Int × (Int × Int)),
 ∀ x15 : List (Int × (Int × Int)),
 ∀ x16 : Bool,
 (UnsetPost x0 x3 x4 x5 x6 x7 x8 x10 x11 x12 x13 x14 x15 x16) →
 ∃ x17 : (List (Bool × (Int × Int)) × Int),
 (RepW x17 x2 x10 x11 x12 x13 x14 x15 x9) ∧
 ((True) ∧
 ((x16 = Prod.snd (unsetR x1 x0)) ∧
 ((x17 = Prod.fst (unsetR x1 x0)) ∧
      (True))))) := by
  intro k w _ now c0 c1 c2 c3 L E M h
  refine ⟨h.is, fun d0 d1 d2 d3 L' E' b hp => ?_⟩
  obtain ⟨q1, q2⟩ := h.unset hp
  exact ⟨_, q1, trivial, q2, rfl, trivial⟩
set_option maxRecDepth 10000 in
theorem w1unset_ok : conW1Unset.ok KN Tryd.prog 35 := by
  refine Con.view_sound (op := .o 0 2) (back := true) (res := .none) (onKN wunset_ok rfl fun _ _ => rfl) rfl (@toVC _ _ w1unset_vc ?_)
  kernel_rfl
noncomputable def G47 : List (FuncId × Con) := (35, conW1Unset) :: G46
theorem G47_ok : GOK KN Tryd.prog G47 := GOK.cons (Callable.of Tryd.func35 (by kernel_rfl) (by kernel_rfl)) w1unset_ok G46_ok

set_option maxRecDepth 10000 in
theorem w1set_vc :
  ∀ x0 : Int,
 ∀ x1 : Int,
 ∀ x2 : Int,
 ∀ x3 : (List (Bool × (Int × Int)) × Int),
 ((u64ok x1) ∧
 (u64ok x2)) →
 ∀ x4 : Int,
 ∀ x5 : Int,
 ∀ x6 : Int,
 ∀ x7 : Int,
 ∀ x8 : Int,
 ∀ x9 : List (Int × (Int × Int)),
 ∀ x10 : List (Int × (Int × Int)),
 ∀ x11 : List (Int × Int),
 (RepW x3 x4 x5 x6 x7 x8 x9 x10 x11) →
 ((IsW x4 x5 x6 x7 x8 x9 x10 x11) ∧
 ((u64ok x1) ∧
 (u64ok x2))) ∧
 (∀ x12 : Int,
 ∀ x13 : Int,
 ∀ x14 : Int,
 ∀ x15 : Int,
 ∀ x16 : List (Int × (Int × Int)),
 ∀ x17 : List (Int × (Int × Int)),
 ∀ x18 : List (Int × Int),
 ∀ x19 : Bool,
 (SetPost x0 x1 x2 x4 x5 x6 x7 x8 x9 x10 x11 x12 x13 x14 x15 x16 x17 x18 x19) →
 ∃ x20 : (List (Bool × (Int × Int)) × Int),
 (RepW x20 x4 x12 x13 x14 x15 x16 x17 x18) ∧
 ((True) ∧
 ((x19 = Prod.snd (setR x3 x0 x1 x2)) ∧
 ((x20 = Prod.fst (setR x3 x0 x1 x2)) ∧
      (True))))) := by
  rintro k at_ turn w ⟨ha, ht⟩ now c0 c1 c2 c3 L E M h
  refine ⟨⟨h.is, ha, ht⟩, fun d0 d1 d2 d3 L' E' M' b hp => ?_⟩
  obtain ⟨q1, q2⟩ := h.set ha ht hp
  exact ⟨_, q1, trivial, q2, rfl, trivial⟩
set_option maxRecDepth 10000 in
theorem w1set_ok : conW1Set.ok KN Tryd.prog 38 := by
  refine Con.view_sound (op := .o 0 2) (back := true) (res := .none) (onKN wset_ok rfl fun _ _ => rfl) rfl (@toVC _ _ w1set_vc ?_)
  kernel_rfl
noncomputable def G48 : List (FuncId × Con) := (38, conW1Set) :: G47
theorem G48_ok : GOK KN Tryd.prog G48 := GOK.cons (Callable.of Tryd.func38 (by kernel_rfl) (by kernel_rfl)) w1set_ok G47_ok

set_option maxRecDepth 10000 in
theorem w1to_vc :
  ∀ x0 : Int,
 ∀ x1 : (List (Bool × (Int × Int)) × Int),
 (u64ok x0) →
 ∀ x2 : Int,
 ∀ x3 : Int,
 ∀ x4 : Int,
 ∀ x5 : Int,
 ∀ x6 : Int,
 ∀ x7 : List (Int × (Int × Int)),
 ∀ x8 : List (Int × (Int × Int)),
 ∀ x9 : List (Int × Int),
 (RepW x1 x2 x3 x4 x5 x6 x7 x8 x9) →
 ((u64ok x0) ∧
 (∃ x10 : Wh,
 RepW x10 x2 x3 x4 x5 x6 x7 x8 x9)) ∧
 (∀ x11 : Int,
 ∀ x12 : Int,
 ∀ x13 : Int,
 ∀ x14 : Int,
 ∀ x15 : Int,
 ∀ x16 : List (Int × (Int × Int)),
 ∀ x17 : List (Int × (Int × Int)),
 ∀ x18 : List Int,
 (ToPost x0 x2 x3 x4 x5 x6 x7 x8 x9 x11 x12 x13 x14 x15 x16 x17 x18) →
 ∃ x19 : (List (Bool × (Int × Int)) × Int),
 (RepW x19 x11 x12 x13 x14 x15 x16 x17 x9) ∧
 ((True) ∧
 ((x18 = outR x1 x0) ∧
 (((↑(List.length x18) : Int) = (↑(List.length (outR x1 x0)) : Int)) ∧
 ((x19 = toR x1 x0) ∧
       (True)))))) := by
  rintro to w ht now c0 c1 c2 c3 L E M h
  refine ⟨⟨ht, _, h⟩, fun e d0 d1 d2 d3 L' E' o hp => ?_⟩
  obtain ⟨q1, q2⟩ := hp _ h
  exact ⟨_, q1, trivial, q2, by rw [q2], rfl, trivial⟩
set_option maxRecDepth 10000 in
theorem w1to_ok : conW1To.ok KN Tryd.prog 41 := by
  refine Con.view_sound (op := .o 0 2) (back := true) (res := .none) (onKN wto_ok rfl fun _ _ => rfl) rfl (@toVC _ _ w1to_vc ?_)
  kernel_rfl
noncomputable def G49 : List (FuncId × Con) := (41, conW1To) :: G48
theorem G49_ok : GOK KN Tryd.prog G49 := GOK.cons (Callable.of Tryd.func41 (by kernel_rfl) (by kernel_rfl)) w1to_ok G48_ok

set_option maxRecDepth 10000 in
theorem w1new_vc :
  ∀ x0 : Int,
 ∀ x1 : Int,
 (u64ok x1) →
 (u64ok x1) ∧
 (True →
 ∃ x2 : (List (Bool × (Int × Int)) × Int),
 (RepW x2 x1 (0 : Int) (0 : Int) (0 : Int) (0 : Int) (List.replicate (cut4096 x0) ((-1 : Int), (-1 : Int), (-1 : Int))) (List.replicate (258 : Nat) ((-1 : Int), (-1 : Int), (0 : Int))) (List.replicate (cut4096 x0) ((0 : Int), (0 : Int)))) ∧
 ((True) ∧
 ((x2 = (List.replicate (cut4096 x0) (false, (0 : Int), (0 : Int)), x1)) ∧
     (True)))) := by
  rintro n now hn
  exact ⟨hn, fun _ => ⟨_, RepW.new hn, trivial, rfl, trivial⟩⟩
set_option maxRecDepth 10000 in
theorem w1new_ok : conW1New.ok KN Tryd.prog 49 := by
  refine Con.view_sound (op := .none) (back := false) (res := .o 2) (onKN wnew_ok rfl fun _ _ => rfl) rfl (@toVC _ _ w1new_vc ?_)
  kernel_rfl
noncomputable def G50 : List (FuncId × Con) := (49, conW1New) :: G49
theorem G50_ok : GOK KN Tryd.prog G50 := GOK.cons (Callable.of Tryd.func49 (by kernel_rfl) (by kernel_rfl)) w1new_ok G49_ok

set_option maxRecDepth 10000 in
theorem rroom_vc :
  ∀ x0 : List (Int × (Int × (Int × Int))),
 ∀ x1 : List Bool,
 (IsR x0 x1) →
 (True) ∧
 (((↑(List.length x0) : Int) = (↑(List.length x0) : Int)) ∧
 ((x0 = x0) ∧
 (((↑(List.length x0) : Int) = (↑(List.length x0) : Int)) ∧
 ((x1 = x1) ∧
      (True))))) := by
  intro room l h
  simp
set_option maxRecDepth 10000 in
theorem rroom_ok : conGRoom.ok KN Tryd.prog 50 := by
  refine Con.of_vc ([]) ([]) ([]) TT_ok follows Tryd.func50 ?_ G50_ok (@toVC _ _ rroom_vc ?_)
  · kernel_rfl
  · kernel_rfl
noncomputable def G51 : List (FuncId × Con) := (50, conGRoom) :: G50
theorem G51_ok : GOK KN Tryd.prog G51 := GOK.cons (Callable.of Tryd.func50 (by kernel_rfl) (by kernel_rfl)) rroom_ok G50_ok

set_option maxRecDepth 10000 in
theorem rcount_vc :
  ∀ x0 : List (Int × (Int × (Int × Int))),
 ∀ x1 : List Bool,
 (IsR x0 x1) →
 (True) ∧
 (True →
 (True) ∧
 ((nt x1 = nt x1) ∧
 ((x0 = x0) ∧
 (((↑(List.length x0) : Int) = (↑(List.length x0) : Int)) ∧
 ((x1 = x1) ∧
       (True)))))) := by
  intro room l h
  simp
set_option maxRecDepth 10000 in
theorem rcount_ok : conGCount.ok KN Tryd.prog 46 := by
  refine Con.of_vc ([]) ([]) ([]) TT_ok follows Tryd.func46 ?_ G51_ok (@toVC _ _ rcount_vc ?_)
  · kernel_rfl
  · kernel_rfl
noncomputable def G52 : List (FuncId × Con) := (46, conGCount) :: G51
theorem G52_ok : GOK KN Tryd.prog G52 := GOK.cons (Callable.of Tryd.func46 (by kernel_rfl) (by kernel_rfl)) rcount_ok G51_ok

set_option maxRecDepth 10000 in
theorem rhas_vc :
  ∀ x0 : Int,
 ∀ x1 : List (Int × (Int × (Int × Int))),
 ∀ x2 : List Bool,
 (IsR x1 x2) →
 (True) ∧
 (True →
 (True) ∧
 ((hasL x2 x0 = hasL x2 x0) ∧
 ((x1 = x1) ∧
 (((↑(List.length x1) : Int) = (↑(List.length x1) : Int)) ∧
 ((x2 = x2) ∧
       (True)))))) := by
  intro k room l h
  simp
set_option maxRecDepth 10000 in
theorem rhas_ok : conGHas.ok KN Tryd.prog 34 := by
  refine Con.of_vc ([]) ([]) ([]) TT_ok follows Tryd.func34 ?_ G52_ok (@toVC _ _ rhas_vc ?_)
  · kernel_rfl
  · kernel_rfl
noncomputable def G53 : List (FuncId × Con) := (34, conGHas) :: G52
theorem G53_ok : GOK KN Tryd.prog G53 := GOK.cons (Callable.of Tryd.func34 (by kernel_rfl) (by kernel_rfl)) rhas_ok G52_ok

set_option maxRecDepth 10000 in
theorem rtake_vc :
  ∀ x0 : (Int × (Int × (Int × Int))),
 ∀ x1 : List (Int × (Int × (Int × Int))),
 ∀ x2 : List Bool,
 (IsR x1 x2) →
 (True) ∧
 (∀ x3 : Int,
 ∀ x4 : Bool,
 (NextP (fun (i : Int) => !ix x2 i) (0 : Int) (↑(List.length x2) : Int) x3 x4) →
 (((!x4) = true) →
 ∃ x5 : Int,
 ∃ x6 : Bool,
 (NextP (fun (i : Int) => !ix x2 i) (0 : Int) (↑(List.length x2) : Int) x5 x6) ∧
 (((0 : Int) = x5) ∧
 ((false = x6) ∧
 ((x1 = if x6 = true then List.set x1 (Int.toNat x5) x0 else x1) ∧
 (((↑(List.length x1) : Int) = (↑(List.length (if x6 = true then List.set x1 (Int.toNat x5) x0 else x1)) : Int)) ∧
 ((x2 = if x6 = true then setL x2 x5 true else x2) ∧
 (True))))))) ∧
 (((!x4) = false) →
 (True) ∧
 (True →
 (((0 : Int) ≤ x3) ∧
 (x3 < (↑(List.length x1) : Int))) ∧
 (∃ x7 : Int,
 ∃ x8 : Bool,
 (NextP (fun (i : Int) => !ix x2 i) (0 : Int) (↑(List.length x2) : Int) x7 x8) ∧
 ((x3 = x7) ∧
 ((true = x8) ∧
 ((List.set x1 (Int.toNat x3) x0 = if x8 = true then List.set x1 (Int.toNat x7) x0 else x1) ∧
 (((↑(List.length x1) : Int) = (↑(List.length (if x8 = true then List.set x1 (Int.toNat x7) x0 else x1)) : Int)) ∧
 (((if putL x2 x3 = true then setL x2 x3 true else x2) = if x8 = true then setL x2 x7 true else x2) ∧
           (True)))))))))) := by
  rintro v room l ⟨h1, h2⟩
  refine ⟨trivial, fun k b hn => ⟨fun hb => ?_, fun hb => ⟨trivial, fun _ => ?_⟩⟩⟩
  · have hb : b = false := by simpa using hb
    subst hb
    rcases hn with ⟨e, _⟩ | ⟨_, rfl, h⟩
    · cases e
    · exact ⟨0, false, .inr ⟨rfl, rfl, h⟩, rfl, rfl, rfl, rfl, rfl, trivial⟩
  · have hb : b = true := by simpa using hb
    subst hb
    rcases hn with ⟨_, k0, k1, hk, h⟩ | ⟨e, _⟩
    · have hp : putL l k = true := by
        unfold putL
        simp only [Bool.and_eq_true, decide_eq_true_eq]
        exact ⟨by omega, k1, hk⟩
      refine ⟨⟨by omega, by omega⟩, k, true, .inl ⟨rfl, k0, k1, hk, h⟩, rfl, rfl, rfl, ?_, ?_, trivial⟩
      · simp
      · simp [hp]
    · cases e
set_option maxRecDepth 10000 in
theorem rtake_ok : conGTake.ok KN Tryd.prog 32 := by
  refine Con.of_vc ([]) ([]) ([]) TT_ok follows Tryd.func32 ?_ G53_ok (@toVC _ _ rtake_vc ?_)
  · kernel_rfl
  · kernel_rfl
noncomputable def G54 : List (FuncId × Con) := (32, conGTake) :: G53
theorem G54_ok : GOK KN Tryd.prog G54 := GOK.cons (Callable.of Tryd.func32 (by kernel_rfl) (by kernel_rfl)) rtake_ok G53_ok

set_option maxRecDepth 10000 in
theorem rgive_vc :
  ∀ x0 : Int,
 ∀ x1 : List (Int × (Int × (Int × Int))),
 ∀ x2 : List Bool,
 (IsR x1 x2) →
 (True) ∧
 (True →
 (((!hasL x2 x0) = true) →
 (True) ∧
 ((false = hasL x2 x0) ∧
 ((x1 = if hasL x2 x0 = true then List.set x1 (Int.toNat x0) noRw else x1) ∧
 (((↑(List.length x1) : Int) = (↑(List.length (if hasL x2 x0 = true then List.set x1 (Int.toNat x0) noRw else x1)) : Int)) ∧
 (((if hasL x2 x0 = true then setL x2 x0 false else x2) = if hasL x2 x0 = true then setL x2 x0 false else x2) ∧
 (True)))))) ∧
 (((!hasL x2 x0) = false) →
 (((0 : Int) ≤ x0) ∧
 (x0 < (↑(List.length x1) : Int))) ∧
 ((True) ∧
 ((true = hasL x2 x0) ∧
 ((List.set x1 (Int.toNat x0) ((0 : Int), (0 : Int), (0 : Int), (0 : Int)) = if hasL x2 x0 = true then List.set x1 (Int.toNat x0) noRw else x1) ∧
 (((↑(List.length x1) : Int) = (↑(List.length (if hasL x2 x0 = true then List.set x1 (Int.toNat x0) noRw else x1)) : Int)) ∧
 (((if hasL x2 x0 = true then setL x2 x0 false else x2) = if hasL x2 x0 = true then setL x2 x0 false else x2) ∧
         (True)))))))) := by
  rintro k room l ⟨h1, h2⟩
  refine ⟨trivial, fun _ => ⟨fun hb => ?_, fun hb => ?_⟩⟩
  · have hb : hasL l k = false := by simpa using hb
    simp [hb]
  · have hb : hasL l k = true := by simpa using hb
    have hb' := hb
    unfold hasL at hb'
    simp only [Bool.and_eq_true, decide_eq_true_eq] at hb'
    exact ⟨⟨hb'.1, by omega⟩, trivial, hb.symm, by rw [if_pos hb], by rw [if_pos hb, List.length_set], rfl, trivial⟩
set_option maxRecDepth 10000 in
theorem rgive_ok : conGGive.ok KN Tryd.prog 36 := by
  refine Con.of_vc ([]) ([]) ([]) TT_ok follows Tryd.func36 ?_ G54_ok (@toVC _ _ rgive_vc ?_)
  · kernel_rfl
  · kernel_rfl
noncomputable def G55 : List (FuncId × Con) := (36, conGGive) :: G54
theorem G55_ok : GOK KN Tryd.prog G55 := GOK.cons (Callable.of Tryd.func36 (by kernel_rfl) (by kernel_rfl)) rgive_ok G54_ok

set_option maxRecDepth 10000 in
theorem rat_vc :
  ∀ x0 : Int,
 ∀ x1 : List (Int × (Int × (Int × Int))),
 ∀ x2 : List Bool,
 (IsR x1 x2) →
 (True) ∧
 (True →
 (((!hasL x2 x0) = true) →
 ∀ x3 : (Int × (Int × (Int × Int))),
 (x3 = ((0 : Int), (0 : Int), (0 : Int), (0 : Int))) →
 (True) ∧
 ((x3 = if hasL x2 x0 = true then ix x1 x0 else noRw) ∧
 ((false = hasL x2 x0) ∧
 ((x1 = x1) ∧
 (((↑(List.length x1) : Int) = (↑(List.length x1) : Int)) ∧
 ((x2 = x2) ∧
 (True))))))) ∧
 (((!hasL x2 x0) = false) →
 (((0 : Int) ≤ x0) ∧
 (x0 < (↑(List.length x1) : Int))) ∧
 (∀ x4 : (Int × (Int × (Int × Int))),
 (x4 = ix x1 x0) →
 ∀ x5 : (Int × (Int × (Int × Int))),
 (x5 = x4) →
 (True) ∧
 ((x5 = if hasL x2 x0 = true then ix x1 x0 else noRw) ∧
 ((true = hasL x2 x0) ∧
 ((x1 = x1) ∧
 (((↑(List.length x1) : Int) = (↑(List.length x1) : Int)) ∧
 ((x2 = x2) ∧
          (True))))))))) := by
  rintro k room l ⟨h1, h2⟩
  refine ⟨trivial, fun _ => ⟨fun hb => ?_, fun hb => ?_⟩⟩
  · have hb : hasL l k = false := by simpa using hb
    rintro _ rfl
    exact ⟨trivial, by rw [hb]; rfl, hb.symm, rfl, rfl, rfl, trivial⟩
  · have hb : hasL l k = true := by simpa using hb
    have hb' := hb
    unfold hasL at hb'
    simp only [Bool.and_eq_true, decide_eq_true_eq] at hb'
    refine ⟨⟨hb'.1, by omega⟩, ?_⟩
    rintro _ rfl _ rfl
    exact ⟨trivial, by rw [if_pos hb], hb.symm, rfl, rfl, rfl, trivial⟩
set_option maxRecDepth 10000 in
theorem rat_ok : conGAt.ok KN Tryd.prog 39 := by
  refine Con.of_vc ([]) ([]) ([]) TT_ok follows Tryd.func39 ?_ G55_ok (@toVC _ _ rat_vc ?_)
  · kernel_rfl
  · kernel_rfl
noncomputable def G56 : List (FuncId × Con) := (39, conGAt) :: G55
theorem G56_ok : GOK KN Tryd.prog G56 := GOK.cons (Callable.of Tryd.func39 (by kernel_rfl) (by kernel_rfl)) rat_ok G55_ok

set_option maxRecDepth 10000 in
theorem rset_vc :
  ∀ x0 : Int,
 ∀ x1 : (Int × (Int × (Int × Int))),
 ∀ x2 : List (Int × (Int × (Int × Int))),
 ∀ x3 : List Bool,
 (IsR x2 x3) →
 (True) ∧
 (True →
 (((!hasL x3 x0) = true) →
 (True) ∧
 ((false = hasL x3 x0) ∧
 ((x2 = if hasL x3 x0 = true then List.set x2 (Int.toNat x0) x1 else x2) ∧
 (((↑(List.length x2) : Int) = (↑(List.length (if hasL x3 x0 = true then List.set x2 (Int.toNat x0) x1 else x2)) : Int)) ∧
 ((x3 = x3) ∧
 (True)))))) ∧
 (((!hasL x3 x0) = false) →
 (((0 : Int) ≤ x0) ∧
 (x0 < (↑(List.length x2) : Int))) ∧
 ((True) ∧
 ((true = hasL x3 x0) ∧
 ((List.set x2 (Int.toNat x0) x1 = if hasL x3 x0 = true then List.set x2 (Int.toNat x0) x1 else x2) ∧
 (((↑(List.length x2) : Int) = (↑(List.length (if hasL x3 x0 = true then List.set x2 (Int.toNat x0) x1 else x2)) : Int)) ∧
 ((x3 = x3) ∧
         (True)))))))) := by
  rintro k v room l ⟨h1, h2⟩
  refine ⟨trivial, fun _ => ⟨fun hb => ?_, fun hb => ?_⟩⟩
  · have hb : hasL l k = false := by simpa using hb
    simp [hb]
  · have hb : hasL l k = true := by simpa using hb
    have hb' := hb
    unfold hasL at hb'
    simp only [Bool.and_eq_true, decide_eq_true_eq] at hb'
    exact ⟨⟨hb'.1, by omega⟩, trivial, hb.symm, by rw [if_pos hb], by rw [if_pos hb, List.length_set], rfl, trivial⟩
set_option maxRecDepth 10000 in
theorem rset_ok : conGSet.ok KN Tryd.prog 37 := by
  refine Con.of_vc ([]) ([]) ([]) TT_ok follows Tryd.func37 ?_ G56_ok (@toVC _ _ rset_vc ?_)
  · kernel_rfl
  · kernel_rfl
noncomputable def G57 : List (FuncId × Con) := (37, conGSet) :: G56
theorem G57_ok : GOK KN Tryd.prog G57 := GOK.cons (Callable.of Tryd.func37 (by kernel_rfl) (by kernel_rfl)) rset_ok G56_ok
end Go.Proofs.YtplefbcgpbdkfaaDoor
/- Package slab: contracts over whole regions. -/
namespace Go.Proofs.YtplefbcgpbdkfaaDoor
open Go Go.Fx
-- ENV: KN
abbrev obG (d : Rg) : Ob := ⟨true, .one 1, tpRg, d⟩
abbrev opG : OK × Tp := (.one 1, tpRg)
def hasG (d : Rg) (k : Int) : Bool := decide (0 ≤ k) && (decide (k < d.length) && (ix d k).1)
def cntG (d : Rg) : Int := (((d.filter (·.1)).length : Nat) : Int)
def putG (d : Rg) (k : Int) (p : Bool × Rw) : Rg := d.set k.toNat p
def conG1Room : Con := mkConO [.is (.obj 0)] [] [] [opG] (fun (d : Rg) => True) [] (constX True _) (fun (d : Rg) => i64 d.length) (constX [] _) (constX [] _) (fun (d : Rg) => [obG d])
def conG1Count : Con := mkConO [.is (.obj 0)] [] [] [opG] (fun (d : Rg) => True) [] (constX True _) (fun (d : Rg) => i64 (cntG d)) (constX [] _) (constX [] _) (fun (d : Rg) => [obG d])
def conG1Has : Con := mkConO [.is (.obj 0), .d (.i .i64)] [] [] [opG] (fun (k : Int) (d : Rg) => True) [] (constX True _) (fun (k : Int) (d : Rg) => bb (hasG d k)) (constX [] _) (constX [] _) (fun (k : Int) (d : Rg) => [obG d])
def conG1Take : Con := mkConO [.is (.obj 0), .d tpRw] [] [] [opG] (fun (v : Rw) (d : Rg) => True) [.i .i64, .bo] (fun (v : Rw) (d : Rg) (k : Int) (b : Bool) => NextP (fun i => !(ix d i).1) 0 d.length k b) (fun (v : Rw) (d : Rg) (k : Int) (b : Bool) => .tup [i64 k, bb b]) (constX [] _) (constX [] _)
  (fun (v : Rw) (d : Rg) (k : Int) (b : Bool) => [obG (if b then putG d k (true, v) else d)])
def conG1Give : Con := mkConO [.is (.obj 0), .d (.i .i64)] [] [] [opG] (fun (k : Int) (d : Rg) => True) [] (constX True _) (fun (k : Int) (d : Rg) => bb (hasG d k)) (constX [] _) (constX [] _) (fun (k : Int) (d : Rg) => [obG (if hasG d k then putG d k (false, noRw) else d)])
def conG1At : Con := mkConO [.is (.obj 0), .d (.i .i64)] [] [] [opG] (fun (k : Int) (d : Rg) => True) [] (constX True _) (fun (k : Int) (d : Rg) => .tup [.x tpRw (if hasG d k then (ix d k).2 else noRw), bb (hasG d k)]) (constX [] _) (constX [] _) (fun (k : Int) (d : Rg) => [obG d])
def conG1Set : Con := mkConO [.is (.obj 0), .d (.i .i64), .d tpRw] [] [] [opG] (fun (k : Int) (v : Rw) (d : Rg) => True) [] (constX True _) (fun (k : Int) (v : Rw) (d : Rg) => bb (hasG d k)) (constX [] _) (constX [] _) (fun (k : Int) (v : Rw) (d : Rg) => [obG (if hasG d k then putG d k (true, v) else d)])
section
variable {d : Rg} {room : List Rw} {l : List Bool} {k : Int}
theorem ix_map {α β : Type} [Inhabited α] [Inhabited β] {f : α → β} {l : List α} {k : Int} (k0 : 0 ≤ k) (k1 : k < l.length) : ix (l.map f) k = f (ix l k) := by
  obtain ⟨h, e⟩ := ix_lt k0 k1
  obtain ⟨h', e'⟩ := ix_lt (l := l.map f) k0 (by rw [List.length_map]; exact k1)
  rw [e, e', List.getElem_map]
theorem RegR.len (h : RegR d room l) : room.length = d.length ∧ l.length = d.length := by rw [h.room, h.held]; simp
theorem RegR.isR (h : RegR d room l) : IsR room l := ⟨by rw [h.len.1, h.len.2], by rw [h.len.2]; exact h.le⟩
theorem RegR.has (h : RegR d room l) (k : Int) : hasL l k = hasG d k := by
  unfold hasL hasG
  rw [h.len.2]
  by_cases c : 0 ≤ k ∧ k < d.length
  · rw [h.held, ix_map c.1 c.2]
  · by_cases c0 : 0 ≤ k
    · have c1 : ¬ k < d.length := fun e => c ⟨c0, e⟩
      simp [c1]
    · simp [c0]
theorem RegR.cnt (h : RegR d room l) : nt l = cntG d := by
  unfold nt cntG
  rw [h.held, List.filter_map, List.length_map]
  rfl
theorem RegR.put (h : RegR d room l) (k : Int) (b : Bool) (v : Rw) : RegR (putG d k (b, v)) (room.set k.toNat v) (setL l k b) := by
  refine ⟨?_, ?_, ?_⟩
  · unfold putG; rw [List.map_set, h.room]
  · unfold putG setL; rw [List.map_set, h.held]
  · unfold putG; rw [List.length_set]; exact h.le
theorem RegR.at_ (h : RegR d room l) (hk : hasG d k = true) : ix room k = (ix d k).2 := by
  unfold hasG at hk
  simp only [Bool.and_eq_true, decide_eq_true_eq] at hk
  rw [h.room, ix_map hk.1 hk.2.1]
theorem RegR.set (h : RegR d room l) (hk : hasG d k = true) (v : Rw) : RegR (putG d k (true, v)) (room.set k.toNat v) l := by
  have h2 := h.put k true v
  unfold hasG at hk
  simp only [Bool.and_eq_true, decide_eq_true_eq] at hk
  have e : setL l k true = l := by
    unfold setL
    apply List.ext_getElem?
    intro i
    rw [List.getElem?_set]
    split
    · rename_i e
      subst e
      have hl : k.toNat < l.length := by rw [h.len.2]; omega
      rw [if_pos hl]
      obtain ⟨_, e2⟩ := ix_lt (l := l) hk.1 (by rw [h.len.2]; exact hk.2.1)
      have e3 : ix l k = true := by rw [h.held, ix_map hk.1 hk.2.1]; exact hk.2.2
      rw [List.getElem?_eq_getElem hl, ← e2, e3]
    · rfl
  rw [e] at h2
  exact h2
end
end Go.Proofs.YtplefbcgpbdkfaaDoor
/- Package slab: the contracts over whole regions hold. -/
namespace Go.Proofs.YtplefbcgpbdkfaaDoor
open Go Go.Fx
-- ENV: KN

set_option maxRecDepth 10000 in
theorem r1room_vc :
  ∀ x0 : List (Bool × (Int × (Int × (Int × Int)))),
 True →
 ∀ x1 : List (Int × (Int × (Int × Int))),
 ∀ x2 : List Bool,
 (RegR x0 x1 x2) →
 (IsR x1 x2) ∧
 (True →
 ∃ x3 : List (Bool × (Int × (Int × (Int × Int)))),
 (RegR x3 x1 x2) ∧
 ((True) ∧
 (((↑(List.length x1) : Int) = (↑(List.length x0) : Int)) ∧
 ((x3 = x0) ∧
      (True))))) := by
  intro d _ room l h
  exact ⟨h.isR, fun _ => ⟨d, h, trivial, by rw [h.len.1], rfl, trivial⟩⟩
set_option maxRecDepth 10000 in
theorem r1room_ok : conG1Room.ok KN Tryd.prog 50 := by
  refine Con.view_sound (op := .o 0 1) (back := true) (res := .none) rroom_ok rfl (@toVC _ _ r1room_vc ?_)
  kernel_rfl
noncomputable def G58 : List (FuncId × Con) := (50, conG1Room) :: G57
theorem G58_ok : GOK KN Tryd.prog G58 := GOK.cons (Callable.of Tryd.func50 (by kernel_rfl) (by kernel_rfl)) r1room_ok G57_ok

set_option maxRecDepth 10000 in
theorem r1count_vc :
  ∀ x0 : List (Bool × (Int × (Int × (Int × Int)))),
 True →
 ∀ x1 : List (Int × (Int × (Int × Int))),
 ∀ x2 : List Bool,
 (RegR x0 x1 x2) →
 (IsR x1 x2) ∧
 (True →
 ∃ x3 : List (Bool × (Int × (Int × (Int × Int)))),
 (RegR x3 x1 x2) ∧
 ((True) ∧
 ((nt x2 = cntG x0) ∧
 ((x3 = x0) ∧
      (True))))) := by
  intro d _ room l h
  exact ⟨h.isR, fun _ => ⟨d, h, trivial, h.cnt, rfl, trivial⟩⟩
set_option maxRecDepth 10000 in
theorem r1count_ok : conG1Count.ok KN Tryd.prog 46 := by
  refine Con.view_sound (op := .o 0 1) (back := true) (res := .none) rcount_ok rfl (@toVC _ _ r1count_vc ?_)
  kernel_rfl
noncomputable def G59 : List (FuncId × Con) := (46, conG1Count) :: G58
theorem G59_ok : GOK KN Tryd.prog G59 := GOK.cons (Callable.of Tryd.func46 (by kernel_rfl) (by kernel_rfl)) r1count_ok G58_ok

set_option maxRecDepth 10000 in
theorem r1has_vc :
  ∀ x0 : Int,
 ∀ x1 : List (Bool × (Int × (Int × (Int × Int)))),
 True →
 ∀ x2 : List (Int × (Int × (Int × Int))),
 ∀ x3 : List Bool,
 (RegR x1 x2 x3) →
 (IsR x2 x3) ∧
 (True →
 ∃ x4 : List (Bool × (Int × (Int × (Int × Int)))),
 (RegR x4 x2 x3) ∧
 ((True) ∧
 ((hasL x3 x0 = hasG x1 x0) ∧
 ((x4 = x1) ∧
      (True))))) := by
  intro k d _ room l h
  exact ⟨h.isR, fun _ => ⟨d, h, trivial, h.has k, rfl, trivial⟩⟩
set_option maxRecDepth 10000 in
theorem r1has_ok : conG1Has.ok KN Tryd.prog 34 := by
  refine Con.view_sound (op := .o 0 1) (back := true) (res := .none) rhas_ok rfl (@toVC _ _ r1has_vc ?_)
  kernel_rfl
noncomputable def G60 : List (FuncId × Con) := (34, conG1Has) :: G59
theorem G60_ok : GOK KN Tryd.prog G60 := GOK.cons (Callable.of Tryd.func34 (by kernel_rfl) (by kernel_rfl)) r1has_ok G59_ok

set_option maxRecDepth 10000 in
theorem r1take_vc :
  ∀ x0 : (Int × (Int × (Int × Int))),
 ∀ x1 : List (Bool × (Int × (Int × (Int × Int)))),
 True →
 ∀ x2 : List (Int × (Int × (Int × Int))),
 ∀ x3 : List Bool,
 (RegR x1 x2 x3) →
 (IsR x2 x3) ∧
 (∀ x4 : Int,
 ∀ x5 : Bool,
 (NextP (fun (i : Int) => !ix x3 i) (0 : Int) (↑(List.length x3) : Int) x4 x5) →
 ∃ x6 : List (Bool × (Int × (Int × (Int × Int)))),
 (RegR x6 (if x5 = true then List.set x2 (Int.toNat x4) x0 else x2) (if x5 = true then setL x3 x4 true else x3)) ∧
 (∃ x7 : Int,
 ∃ x8 : Bool,
 (NextP (fun (i : Int) => !Prod.fst (ix x1 i)) (0 : Int) (↑(List.length x1) : Int) x7 x8) ∧
 ((x4 = x7) ∧
 ((x5 = x8) ∧
 ((x6 = if x8 = true then putG x1 x7 (true, x0) else x1) ∧
       (True)))))) := by
  intro v d _ room l h
  refine ⟨h.isR, fun k b hn => ⟨_, ?_, k, b, ?_, rfl, rfl, rfl, trivial⟩⟩
  · cases b with
    | true => exact h.put k true v
    | false => exact h
  · rw [h.len.2] at hn
    exact hn.congr fun i i0 i1 => by rw [h.held, ix_map i0 i1]
set_option maxRecDepth 10000 in
theorem r1take_ok : conG1Take.ok KN Tryd.prog 32 := by
  refine Con.view_sound (op := .o 0 1) (back := true) (res := .none) rtake_ok rfl (@toVC _ _ r1take_vc ?_)
  kernel_rfl
noncomputable def G61 : List (FuncId × Con) := (32, conG1Take) :: G60
theorem G61_ok : GOK KN Tryd.prog G61 := GOK.cons (Callable.of Tryd.func32 (by kernel_rfl) (by kernel_rfl)) r1take_ok G60_ok

set_option maxRecDepth 10000 in
theorem r1give_vc :
  ∀ x0 : Int,
 ∀ x1 : List (Bool × (Int × (Int × (Int × Int)))),
 True →
 ∀ x2 : List (Int × (Int × (Int × Int))),
 ∀ x3 : List Bool,
 (RegR x1 x2 x3) →
 (IsR x2 x3) ∧
 (True →
 ∃ x4 : List (Bool × (Int × (Int × (Int × Int)))),
 (RegR x4 (if hasL x3 x0 = true then List.set x2 (Int.toNat x0) noRw else x2) (if hasL x3 x0 = true then setL x3 x0 false else x3)) ∧
 ((True) ∧
 ((hasL x3 x0 = hasG x1 x0) ∧
 ((x4 = if hasG x1 x0 = true then putG x1 x0 (false, noRw) else x1) ∧
      (True))))) := by
  intro k d _ room l h
  rw [h.has k]
  refine ⟨h.isR, fun _ => ⟨_, ?_, trivial, rfl, rfl, trivial⟩⟩
  cases e : hasG d k with
  | true => exact h.put k false noRw
  | false => exact h
set_option maxRecDepth 10000 in
theorem r1give_ok : conG1Give.ok KN Tryd.prog 36 := by
  refine Con.view_sound (op := .o 0 1) (back := true) (res := .none) rgive_ok rfl (@toVC _ _ r1give_vc ?_)
  kernel_rfl
noncomputable def G62 : List (FuncId × Con) := (36, conG1Give) :: G61
theorem G62_ok : GOK KN Tryd.prog G62 := GOK.cons (Callable.of Tryd.func36 (by kernel_rfl) (by kernel_rfl)) r1give_ok G61_ok

set_option maxRecDepth 10000 in
theorem r1at_vc :
  ∀ x0 : Int,
 ∀ x1 : List (Bool × (Int × (Int × (Int × Int)))),
 True →
 ∀ x2 : List (Int × (Int × (Int × Int))),
 ∀ x3 : List Bool,
 (RegR x1 x2 x3) →
 (IsR x2 x3) ∧
 (True →
 ∃ x4 : List (Bool × (Int × (Int × (Int × Int)))),
 (RegR x4 x2 x3) ∧
 ((True) ∧
 (((if hasL x3 x0 = true then ix x2 x0 else noRw) = if hasG x1 x0 = true then Prod.snd (ix x1 x0) else noRw) ∧
 ((hasL x3 x0 = hasG x1 x0) ∧
 ((x4 = x1) ∧
       (True)))))) := by
  intro k d _ room l h
  rw [h.has k]
  refine ⟨h.isR, fun _ => ⟨d, h, trivial, ?_, rfl, rfl, trivial⟩⟩
  cases e : hasG d k with
  | true => exact h.at_ e
  | false => rfl
set_option maxRecDepth 10000 in
theorem r1at_ok : conG1At.ok KN Tryd.prog 39 := by
  refine Con.view_sound (op := .o 0 1) (back := true) (res := .none) rat_ok rfl (@toVC _ _ r1at_vc ?_)
  kernel_rfl
noncomputable def G63 : List (FuncId × Con) := (39, conG1At) :: G62
theorem G63_ok : GOK KN Tryd.prog G63 := GOK.cons (Callable.of Tryd.func39 (by kernel_rfl) (by kernel_rfl)) r1at_ok G62_ok

set_option maxRecDepth 10000 in
theorem r1set_vc :
  ∀ x0 : Int,
 ∀ x1 : (Int × (Int × (Int × Int))),
 ∀ x2 : List (Bool × (Int × (Int × (Int × Int)))),
 True →
 ∀ x3 : List (Int × (Int × (Int × Int))),
 ∀ x4 : List Bool,
 (RegR x2 x3 x4) →
 (IsR x3 x4) ∧
 (True →
 ∃ x5 : List (Bool × (Int × (Int × (Int × Int)))),
 (RegR x5 (if hasL x4 x0 = true then List.set x3 (Int.toNat x0) x1 else x3) x4) ∧
 ((True) ∧
 ((hasL x4 x0 = hasG x2 x0) ∧
 ((x5 = if hasG x2 x0 = true then putG x2 x0 (true, x1) else x2) ∧
      (True))))) := by
  intro k v d _ room l h
  rw [h.has k]
  refine ⟨h.isR, fun _ => ⟨_, ?_, trivial, rfl, rfl, trivial⟩⟩
  cases e : hasG d k with
  | true => exact h.set e v
  | false => exact h
set_option maxRecDepth 10000 in
theorem r1set_ok : conG1Set.ok KN Tryd.prog 37 := by
  refine Con.view_sound (op := .o 0 1) (back := true) (res := .none) rset_ok rfl (@toVC _ _ r1set_vc ?_)
  kernel_rfl
noncomputable def G64 : List (FuncId × Con) := (37, conG1Set) :: G63
theorem G64_ok : GOK KN Tryd.prog G64 := GOK.cons (Callable.of Tryd.func37 (by kernel_rfl) (by kernel_rfl)) r1set_ok G63_ok
end Go.Proofs.YtplefbcgpbdkfaaDoor
