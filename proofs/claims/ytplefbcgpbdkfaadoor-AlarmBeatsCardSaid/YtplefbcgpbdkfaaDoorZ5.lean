/- Package slab: the contracts of what makes regions. -/
import Derived.Test.YtplefbcgpbdkfaaDoorZ4
set_option linter.all false
namespace Go.Proofs.YtplefbcgpbdkfaaDoor
open Go Go.Fx
-- ENV: KN
def cut256 (n : Int) : Nat := if n < 0 then 0 else if 256 < n then 256 else n.toNat
def conHeldG : Con := fnC [.d (.i .i64)] (fun (n : Int) => i64 (cut256 n))
/-- Regions were made, of so many places each. -/
structure NewG (caps : List Int) (g : ArG) (ps : List Pt) (g' : ArG) : Prop where
  len : (ps.length : Int) = min caps.length 64
  is : ∀ i : Int, 0 ≤ i → i < ps.length → (0 ≤ (ix ps i).1 ∧ 0 ≤ (ix ps i).2) ∧ hasA (ix ps i) g' = true ∧ rgA (ix ps i) g' = List.replicate (cut256 (ix caps i)) (false, noRw)
def conGNew : Con := mkConO [.d (.sl (.i .i64))] [] [] [opAG] (fun (caps : List Int) (g : ArG) => caps.length ≤ 1000) [.sl .pt, tpArG] (fun (caps : List Int) (g : ArG) (ps : List Pt) (g' : ArG) => NewG caps g ps g') (constX (.lp 0 0) _)
  (fun (caps : List Int) (g : ArG) (ps : List Pt) (g' : ArG) => [⟨true, .ls [.junk, .own 0]⟩]) (fun (caps : List Int) (g : ArG) (ps : List Pt) (g' : ArG) => [mkRow 65 .pt ps]) (fun (caps : List Int) (g : ArG) (ps : List Pt) (g' : ArG) => [obAG g'])
def conGRegion : Con := (mkCon [.is (.lp 0 0), .d (.i .i64)] [.ls [.is .junk, .is (.own 0)]] [⟨true, 65, .pt⟩] (fun (k : Int) (ps : List Pt) => 0 ≤ k ∧ k < ps.length) [] (constX True _) (fun (k : Int) (ps : List Pt) => .pt (ix ps k)) (constX [] _) (constX [] _)).look
end Go.Proofs.YtplefbcgpbdkfaaDoor
/- Package slab: regions are made. -/
namespace Go.Proofs.YtplefbcgpbdkfaaDoor
open Go Go.Fx
-- ENV: KN

/-- How many places so many regions have. -/
def sumC (l : List Int) : Nat → Int
  | 0 => 0
  | k + 1 => sumC l k + (cut256 (ix l (k : Int)) : Int)
theorem cut256_le (n : Int) : cut256 n ≤ 256 := by unfold cut256; split <;> (try split) <;> omega
theorem sumC_le (l : List Int) : ∀ k : Nat, 0 ≤ sumC l k ∧ sumC l k ≤ 256 * k
  | 0 => ⟨Int.le_refl _, Int.le_refl _⟩
  | k + 1 => by
    have h := sumC_le l k
    have h2 := cut256_le (ix l (k : Int))
    show 0 ≤ sumC l k + _ ∧ sumC l k + _ ≤ _
    omega
theorem sumC_mono (l : List Int) : ∀ {j k : Nat}, j ≤ k → sumC l j ≤ sumC l k
  | j, 0, h => by obtain rfl : j = 0 := by omega
                  exact Int.le_refl _
  | j, k + 1, h => by
    by_cases e : j = k + 1
    · subst e; exact Int.le_refl _
    · have := sumC_mono l (show j ≤ k by omega)
      show _ ≤ sumC l k + _
      omega
theorem sumC_next {l : List Int} {k : Int} (k0 : 0 ≤ k) : sumC l (k + 1).toNat = sumC l k.toNat + (cut256 (ix l k) : Int) := by
  rw [show (k + 1).toNat = k.toNat + 1 from by omega]
  show sumC l k.toNat + (cut256 (ix l (k.toNat : Int)) : Int) = _
  rw [show ((k.toNat : Nat) : Int) = k from by omega]
theorem ix_takeZ {α : Type} [Inhabited α] {l : List α} {n i : Int} (i0 : 0 ≤ i) (i1 : i < n) : ix (l.take n.toNat) i = ix l i := by
  unfold ix
  rw [List.getD_eq_getElem?_getD, List.getD_eq_getElem?_getD, List.getElem?_take_of_lt (by omega)]
theorem ix_appZ {α : Type} [Inhabited α] {l : List α} {x : α} {i : Int} (i0 : 0 ≤ i) : ix (l ++ [x]) i = if i < l.length then ix l i else if i = l.length then x else default := by
  unfold ix
  rw [List.getD_eq_getElem?_getD, List.getD_eq_getElem?_getD]
  split
  · rw [List.getElem?_append_left (by omega)]
  · split
    · rename_i e
      rw [List.getElem?_append_right (by omega), show i.toNat - l.length = 0 from by omega]
      rfl
    · rw [List.getElem?_eq_none (by simp; omega)]
      rfl
theorem hasA_cons {α : Type} {e x : Pt} {d : α} {l : List (Pt × α)} (h : e ≠ x) : hasA x ((e, d) :: l) = hasA x l := by
  show (if e = x then true else hasA x l) = _
  rw [if_neg h]
theorem rgA_cons {e x : Pt} {d : Rg} {l : ArG} (h : e ≠ x) : rgA x ((e, d) :: l) = rgA x l := by
  unfold rgA
  show (if e = x then d else getA _ x l) = _
  rw [if_neg h]
theorem regR_new {c m : Nat} (hc : c ≤ 256) (hm : c ≤ m) : RegR (List.replicate c (false, noRw)) ((List.replicate m noRw).take c) (List.replicate c false) :=
  ⟨by simp [List.take_replicate, Nat.min_eq_left hm], by simp, by simp; omega⟩

set_option maxRecDepth 10000 in
theorem gheld_vc :
  ∀ x0 : Int,
 True →
 ∀ x1 : Int,
 (x1 = if (256 : Int) < x0 then (256 : Int) else x0) →
 ∀ x2 : Int,
 (x2 = if (0 : Int) < x1 then x1 else (0 : Int)) →
 (True) ∧
 ((x2 = (↑(cut256 x0) : Int)) ∧
   (True)) := by
  rintro n _ _ rfl _ rfl
  refine ⟨trivial, ?_, trivial⟩
  unfold cut256
  split <;> split <;> (try split) <;> omega
set_option maxRecDepth 10000 in
theorem gheld_ok : conHeldG.ok KN Tryd.prog 47 := by
  refine Con.of_vc ([]) ([]) ([]) TT_ok follows Tryd.func47 ?_ G103_ok (@toVC _ _ gheld_vc ?_)
  · kernel_rfl
  · kernel_rfl
noncomputable def G104 : List (FuncId × Con) := (47, conHeldG) :: G103
theorem G104_ok : GOK KN Tryd.prog G104 := GOK.cons (Callable.of Tryd.func47 (by kernel_rfl) (by kernel_rfl)) gheld_ok G103_ok

set_option maxRecDepth 10000 in
theorem gregion_vc :
  ∀ x0 : Int,
 ∀ x1 : List (Int × Int),
 (((0 : Int) ≤ x0) ∧
 (x0 < (↑(List.length x1) : Int))) →
 ((litCmp BinOp.lss x0 (0 : Int) = true) →
 (True) ∧
 ((((-1 : Int), (0 : Int)) = ix x1 x0) ∧
 ((x1 = x1) ∧
 (((↑(List.length x1) : Int) = (↑(List.length x1) : Int)) ∧
 (True))))) ∧
 ((litCmp BinOp.lss x0 (0 : Int) = false) →
 ((litCmp BinOp.geq x0 (↑(List.length x1) : Int) = true) →
 (True) ∧
 ((((-1 : Int), (0 : Int)) = ix x1 x0) ∧
 ((x1 = x1) ∧
 (((↑(List.length x1) : Int) = (↑(List.length x1) : Int)) ∧
 (True))))) ∧
 ((litCmp BinOp.geq x0 (↑(List.length x1) : Int) = false) →
 (((0 : Int) ≤ x0) ∧
 (x0 < (↑(List.length x1) : Int))) ∧
 ((True) ∧
 ((ix x1 x0 = ix x1 x0) ∧
 ((x1 = x1) ∧
 (((↑(List.length x1) : Int) = (↑(List.length x1) : Int)) ∧
        (True))))))) := by
  rintro k ps ⟨h0, h1⟩
  simp only [gtrT, gtrF, lssT, lssF, leqT, leqF, geqT, geqF, eqlT, eqlF, neqT, neqF, true_and, and_true, true_implies, implies_true, Bool.not_eq_true', Bool.not_eq_false', bne_iff_ne, ne_eq, not_true_eq_false, not_false_eq_true, Int.toNat_natCast, same_self, reduceCtorEq, false_implies, List.nil_append]
  exact ⟨fun h => absurd h (by omega), fun _ => ⟨fun h => absurd h (by omega), fun _ => ⟨h0, h1⟩⟩⟩
set_option maxRecDepth 10000 in
theorem gregion_ok : conGRegion.ok KN Tryd.prog 29 := by
  refine Con.of_vc ([]) ([]) ([]) TT_ok follows Tryd.func29 ?_ G104_ok (@toVC _ _ gregion_vc ?_)
  · kernel_rfl
  · kernel_rfl
noncomputable def G105 : List (FuncId × Con) := (29, conGRegion) :: G104
theorem G105_ok : GOK KN Tryd.prog G105 := GOK.cons (Callable.of Tryd.func29 (by kernel_rfl) (by kernel_rfl)) gregion_ok G104_ok

set_option maxRecDepth 10000 in
theorem gnew_vc :
  ∀ x0 : List Int,
 ∀ x1 : ArG,
 (List.length x0 ≤ (1000 : Nat)) →
 ∀ x2 : Int,
 (x2 = if (64 : Int) < (↑(List.length x0) : Int) then (64 : Int) else (↑(List.length x0) : Int)) →
 ((0 : Int) ≤ x2) ∧
 ((x2 ≤ (↑(List.length x0) : Int)) ∧
 (∃ x3 : Int → Int → Prop,
 ∃ x4 : Int → Int → Nat,
 (x3 (0 : Int) (0 : Int)) ∧
 (∀ x5 : Int,
 ∀ x6 : Int,
 (x3 x5 x6) →
 ((litCmp BinOp.lss x6 x2 = true) →
 (((0 : Int) ≤ x6) ∧
 (x6 < x2)) ∧
 (∀ x7 : Int,
 (x7 = ix (List.take (Int.toNat x2) x0) x6) →
 (True) ∧
 (True →
 ∀ x8 : Int,
 (x8 = litArith BinOp.add IntKind.i64 x5 (↑(cut256 x7) : Int)) →
 ∀ x9 : Int,
 (x9 = litArith BinOp.add IntKind.i64 x6 (1 : Int)) →
 (List.take (Int.toNat x2) x0 = List.take (Int.toNat x2) x0) ∧
 ((x2 = x2) ∧
 ((List.take (Int.toNat x2) x0 = List.take (Int.toNat x2) x0) ∧
 ((x2 = x2) ∧
 ((x2 = x2) ∧
 ((x1 = x1) ∧
 ((x3 x8 x9) ∧
 (x4 x8 x9 < x4 x5 x6)))))))))) ∧
 ((litCmp BinOp.lss x6 x2 = false) →
 (((0 : Int) ≤ x5) ∧
 (x5 * (32 : Int) ≤ (140737488355328 : Int))) ∧
 (∃ x10 : Int → Int → Int → Int → List (Int × (Int × (Int × Int))) → List (Int × Int) → ArG → Prop,
 ∃ x11 : Int → Int → Int → Int → List (Int × (Int × (Int × Int))) → List (Int × Int) → ArG → Nat,
 (x10 (0 : Int) (0 : Int) (0 : Int) x5 (List.replicate (Int.toNat x5) ((0 : Int), (0 : Int), (0 : Int), (0 : Int))) [] x1) ∧
 (∀ x12 : Int,
 ∀ x13 : Int,
 ∀ x14 : Int,
 ∀ x15 : Int,
 ∀ x16 : List (Int × (Int × (Int × Int))),
 ∀ x17 : List (Int × Int),
 ∀ x18 : ArG,
 (x10 x12 x13 x14 x15 x16 x17 x18) →
 ((litCmp BinOp.lss x13 x2 = true) →
 (((0 : Int) ≤ x13) ∧
 (x13 < x2)) ∧
 (∀ x19 : Int,
 (x19 = ix (List.take (Int.toNat x2) x0) x13) →
 (True) ∧
 (True →
 ∀ x20 : Int,
 (x20 = litArith BinOp.add IntKind.i64 x12 (↑(cut256 x19) : Int)) →
 ((x14 ≤ x12) ∧
 ((x12 ≤ x14) ∧
 ((x12 ≤ x20) ∧
 ((x20 ≤ x15) ∧
 ((x20 ≤ x20) ∧
 ((x20 ≤ x20) ∧
 ((True) ∧
 (True →
 ∃ x21 : List (Bool × (Int × (Int × (Int × Int)))),
 (RegR x21 (List.take (Int.toNat (x20 - x12)) x16) (List.replicate (cut4096 (litArith BinOp.sub IntKind.i64 x20 x12)) false)) ∧
 (∀ x22 : Int × Int,
 (((0 : Int) ≤ Prod.fst x22) ∧
 ((0 : Int) ≤ Prod.snd x22)) →
 (freshA x18 x22) →
 (((0 : Int) ≤ (↑(List.length x17) : Int) + (1 : Int)) ∧
 (((↑(List.length x17) : Int) + (1 : Int)) * (8 : Int) ≤ (140737488355328 : Int))) ∧
 (∀ x23 : Int,
 (x23 = litArith BinOp.add IntKind.i64 x13 (1 : Int)) →
 (List.take (Int.toNat x2) x0 = List.take (Int.toNat x2) x0) ∧
 ((x2 = x2) ∧
 ((x2 = x2) ∧
 ((x10 x20 x23 (x14 + (x20 - x12)) x15 (List.drop (Int.toNat (x20 - x12)) x16) (x17 ++ [x22]) ((x22, x21) :: x18)) ∧
 (x11 x20 x23 (x14 + (x20 - x12)) x15 (List.drop (Int.toNat (x20 - x12)) x16) (x17 ++ [x22]) ((x22, x21) :: x18) < x11 x12 x13 x14 x15 x16 x17 x18)))))))))))))) ∧
 ((True) ∧
 (True →
 (x14 ≤ x12) ∧
 ((x12 ≤ x14) ∧
 ((x12 ≤ x20) ∧
 ((x20 ≤ x15) ∧
 ((x20 ≤ x20) ∧
 ((x20 ≤ x20) ∧
 (∃ x24 : List (Bool × (Int × (Int × (Int × Int)))),
 (RegR x24 (List.take (Int.toNat (x20 - x12)) x16) (List.replicate (cut4096 (litArith BinOp.sub IntKind.i64 x20 x12)) false)) ∧
 (∀ x25 : Int × Int,
 (((0 : Int) ≤ Prod.fst x25) ∧
 ((0 : Int) ≤ Prod.snd x25)) →
 (freshA x18 x25) →
 (((0 : Int) ≤ (↑(List.length x17) : Int) + (1 : Int)) ∧
 (((↑(List.length x17) : Int) + (1 : Int)) * (8 : Int) ≤ (140737488355328 : Int))) ∧
 (∀ x26 : Int,
 (x26 = litArith BinOp.add IntKind.i64 x13 (1 : Int)) →
 (List.take (Int.toNat x2) x0 = List.take (Int.toNat x2) x0) ∧
 ((x2 = x2) ∧
 ((x2 = x2) ∧
 ((x10 x20 x26 (x14 + (x20 - x12)) x15 (List.drop (Int.toNat (x20 - x12)) x16) (x17 ++ [x25]) ((x25, x24) :: x18)) ∧
 (x11 x20 x26 (x14 + (x20 - x12)) x15 (List.drop (Int.toNat (x20 - x12)) x16) (x17 ++ [x25]) ((x25, x24) :: x18) < x11 x12 x13 x14 x15 x16 x17 x18))))))))))))))))) ∧
 ((litCmp BinOp.lss x13 x2 = false) →
 ∃ x27 : List (Int × Int),
 ∃ x28 : ArG,
 (NewG x0 x1 x27 x28) ∧
 ((x17 = x27) ∧
 (((↑(List.length x17) : Int) = (↑(List.length x27) : Int)) ∧
 ((x18 = x28) ∧
            (True))))))))))) := by
  intro caps g hc n hn
  have n0 : 0 ≤ n ∧ n ≤ caps.length ∧ n ≤ 64 := by rw [hn]; split <;> omega
  refine ⟨n0.1, n0.2.1, ?_⟩
  have hcs : ∀ {i : Int}, 0 ≤ i → i < n → ix (List.take n.toNat caps) i = ix caps i := fun i0 i1 => ix_takeZ i0 i1
  generalize hcsE : List.take n.toNat caps = cs at hcs ⊢
  refine ⟨fun t k => 0 ≤ k ∧ k ≤ n ∧ t = sumC cs k.toNat, fun _ k => (n - k).toNat, ⟨Int.le_refl _, n0.1, rfl⟩, ?_⟩
  rintro t k ⟨k0, k1, ht⟩
  have hs := sumC_le cs k.toNat
  refine ⟨fun hk => ?_, fun hk => ?_⟩
  · rw [lssT] at hk
    refine ⟨⟨k0, hk⟩, ?_⟩
    intro c hcx
    refine ⟨trivial, fun _ => ?_⟩
    intro t' ht' z hz
    have h2 := cut256_le c
    rw [addI_ (by omega) (by omega)] at ht'
    rw [addI_ (by omega) (by omega)] at hz
    refine ⟨rfl, rfl, rfl, rfl, rfl, rfl, ⟨by omega, by omega, ?_⟩, by rw [hz]; exact meas hk⟩
    rw [hz, sumC_next k0, ← hcx, ← ht, ht']
  · rw [lssF] at hk
    obtain rfl : k = n := by omega
    refine ⟨⟨by omega, by omega⟩, ?_⟩
    refine ⟨fun fr i p tot room ps g' => 0 ≤ i ∧ i ≤ k ∧ fr = sumC cs i.toNat ∧ p = fr ∧ tot = t ∧ room = List.replicate (t - fr).toNat noRw ∧ (ps.length : Int) = i ∧ ∀ j : Int, 0 ≤ j → j < i → (0 ≤ (ix ps j).1 ∧ 0 ≤ (ix ps j).2) ∧ hasA (ix ps j) g' = true ∧ rgA (ix ps j) g' = List.replicate (cut256 (ix cs j)) (false, noRw), fun _ i _ _ _ _ _ => (k - i).toNat, ⟨Int.le_refl _, k0, rfl, rfl, rfl, by rw [Int.sub_zero], rfl, fun j j0 j1 => by omega⟩, ?_⟩
    intro fr i p tot room ps g' hI
    obtain ⟨i0, i1, hfr, hp, htot, hroom, hps, hall⟩ := hI
    have hsi := sumC_le cs i.toNat
    refine ⟨fun hi => ?_, fun hi => ?_⟩
    · rw [lssT] at hi
      refine ⟨⟨i0, hi⟩, ?_⟩
      intro c hcx
      refine ⟨trivial, fun _ => ?_⟩
      intro to hto
      have h2 := cut256_le c
      rw [addI_ (by omega) (by omega)] at hto
      have hnx : to = sumC cs (i + 1).toNat := by rw [sumC_next i0, ← hcx, ← hfr, hto]
      have hle : to ≤ t := by rw [hnx, ht]; exact sumC_mono cs (by omega)
      have hc4 : cut4096 (litArith .sub .i64 to fr) = cut256 c := by
        rw [subI_ (by omega) (by omega)]
        unfold cut4096
        rw [if_neg (by omega), if_neg (by omega)]
        omega
      have hreg : RegR (List.replicate (cut256 c) (false, noRw)) (List.take (to - fr).toNat room) (List.replicate (cut4096 (litArith .sub .i64 to fr)) false) := by
        rw [hc4, hroom, show (to - fr).toNat = cut256 c from by omega]
        exact regR_new h2 (by omega)
      have fin : ∀ {e0 : Pt}, (0 ≤ e0.1 ∧ 0 ≤ e0.2) → freshA g' e0 → ∀ z : Int, z = litArith .add .i64 i 1 →
          (0 ≤ z ∧ z ≤ k ∧ to = sumC cs z.toNat ∧ p + (to - fr) = to ∧ tot = t ∧ room.drop (to - fr).toNat = List.replicate (t - to).toNat noRw ∧ ((ps ++ [e0]).length : Int) = z ∧ ∀ j : Int, 0 ≤ j → j < z → (0 ≤ (ix (ps ++ [e0]) j).1 ∧ 0 ≤ (ix (ps ++ [e0]) j).2) ∧ hasA (ix (ps ++ [e0]) j) ((e0, List.replicate (cut256 c) (false, noRw)) :: g') = true ∧ rgA (ix (ps ++ [e0]) j) ((e0, List.replicate (cut256 c) (false, noRw)) :: g') = List.replicate (cut256 (ix cs j)) (false, noRw)) ∧ (k - z).toNat < (k - i).toNat := by
        intro e0 hq hf z hz
        rw [addI_ (by omega) (by omega)] at hz
        subst z
        refine ⟨⟨by omega, by omega, hnx, by omega, htot, ?_, by rw [List.length_append, List.length_singleton]; omega, fun j j0 j1 => ?_⟩, meas hi⟩
        · rw [hroom, List.drop_replicate]
          congr 1
          omega
        · rw [ix_appZ j0]
          by_cases e : j < ps.length
          · rw [if_pos e]
            obtain ⟨q1, q2, q3⟩ := hall j j0 (by omega)
            have hne : e0 ≠ ix ps j := (fresh_ne hf q2).symm
            exact ⟨q1, by rw [hasA_cons hne]; exact q2, by rw [rgA_cons hne]; exact q3⟩
          · rw [if_neg e, if_pos (by omega)]
            obtain rfl : j = i := by omega
            refine ⟨hq, by show (if e0 = e0 then true else _) = true; rw [if_pos rfl], ?_⟩
            rw [← hcx]
            show (if e0 = e0 then _ else _) = _
            rw [if_pos rfl]
      exact ⟨⟨by omega, by omega, by omega, by omega, Int.le_refl _, Int.le_refl _, trivial, fun _ => ⟨_, hreg, fun e0 hq hf => ⟨⟨by omega, by omega⟩, fun z hz => ⟨rfl, rfl, rfl, fin hq hf z hz⟩⟩⟩⟩, trivial, fun _ => ⟨by omega, by omega, by omega, by omega, Int.le_refl _, Int.le_refl _, _, hreg, fun e0 hq hf => ⟨⟨by omega, by omega⟩, fun z hz => ⟨rfl, rfl, rfl, fin hq hf z hz⟩⟩⟩⟩
    · rw [lssF] at hi
      obtain rfl : i = k := by omega
      refine ⟨ps, g', ⟨?_, fun j j0 j1 => ?_⟩, rfl, rfl, rfl, trivial⟩
      · rw [hps, hn]
        omega
      · obtain ⟨q1, q2, q3⟩ := hall j j0 (by omega)
        rw [hcs j0 (by omega)] at q3
        exact ⟨q1, q2, q3⟩
set_option maxRecDepth 10000 in
theorem gnew_ok : conGNew.ok KN Tryd.prog 28 := by
  refine Con.of_vc ([(0, ⟨[], [(3, .d (.i .i64)), (18, .d (.i .i64))], [], [], []⟩), (2, ⟨[(28, 54, tpRw), (10001, 65, .pt)], [(7, .d (.i .i64)), (33, .d (.i .i64))], [(0, .ls [.bk 0 4, .is (.own 1)])], [0, 1], [0]⟩)]) ([]) ([]) TT_ok follows Tryd.func28 ?_ G105_ok (@toVC _ _ gnew_vc ?_)
  · kernel_rfl
  · kernel_rfl
noncomputable def G106 : List (FuncId × Con) := (28, conGNew) :: G105
theorem G106_ok : GOK KN Tryd.prog G106 := GOK.cons (Callable.of Tryd.func28 (by kernel_rfl) (by kernel_rfl)) gnew_ok G105_ok
end Go.Proofs.YtplefbcgpbdkfaaDoor
/- Package nightjarlaw08: the contracts. -/
namespace Go.Proofs.YtplefbcgpbdkfaaDoor
open Go Go.Fx
-- ENV: KN
def newB (n : Nat) (now : Int) : Bo := (List.replicate n noTm, 0, now)
def conLBook : Con := mkConO [.d (.i .i64), .d (.i .u64)] [] [] [opAG, opA] (fun (room now : Int) (g : ArG) (l : Ar) => u64ok now) [.pt, tpArG, tpAr] (fun (room now : Int) (g : ArG) (l : Ar) (q : Pt) (g' : ArG) (l' : Ar) => (0 ≤ q.1 ∧ 0 ≤ q.2) ∧ freshA l q ∧ UpA q (newB (cut256 room) now) l l') (fun (room now : Int) (g : ArG) (l : Ar) (q : Pt) (g' : ArG) (l' : Ar) => .pt q)
  (constX [] _) (constX [] _) (fun (room now : Int) (g : ArG) (l : Ar) (q : Pt) (g' : ArG) (l' : Ar) => [obAG g', obA l'])
def conLAlive : Con := mkConO [] [] [] [opAG, opA] (fun (g : ArG) (l : Ar) => True) [tpArG, tpAr] (fun (g : ArG) (l : Ar) (g' : ArG) (l' : Ar) => True) (fun (g : ArG) (l : Ar) (g' : ArG) (l' : Ar) => bb true)
  (constX [] _) (constX [] _) (fun (g : ArG) (l : Ar) (g' : ArG) (l' : Ar) => [obAG g', obA l'])
def conLSame : Con := mkConO [.d .pt, .d tpBo, .d (.i .i64)] [] [] [opA] (fun (e : Pt) (x : Bo) (k : Int) (l : Ar) => hasA e l = true ∧ bkA e l = x ∧ x.1.length ≤ 4096) [tpAr] (fun (e : Pt) (x : Bo) (k : Int) (l l' : Ar) => UpA e x l l') (fun (e : Pt) (x : Bo) (k : Int) (l l' : Ar) => bb true)
  (constX [] _) (constX [] _) (fun (e : Pt) (x : Bo) (k : Int) (l l' : Ar) => [obA l'])
end Go.Proofs.YtplefbcgpbdkfaaDoor
/- Package nightjarlaw08: books, in plain words. -/
namespace Go.Proofs.YtplefbcgpbdkfaaDoor
open Go Go.Fx
theorem u64_wf {n : Int} (h : wfK .u64 n) : u64ok n := by
  unfold wfK at h
  simp [Lit.wf, IntKind.min, IntKind.max, IntKind.signed, IntKind.bits] at h
  unfold u64ok
  omega
theorem u64_of {n : Int} (h : Fits (.i .u64) n) : u64ok n := u64_wf h.out
theorem ix_mem {α : Type} [Inhabited α] {l : List α} {k : Int} (h0 : 0 ≤ k) (h1 : k < l.length) : ix l k ∈ l := by
  unfold ix
  rw [List.getD_eq_getElem?_getD, List.getElem?_eq_getElem (by omega)]
  exact List.getElem_mem _
theorem u64_ix {l : List Int} (h : Fits (.sl (.i .u64)) l) {k : Int} (h0 : 0 ≤ k) (h1 : k < l.length) : u64ok (ix l k) := u64_wf (h.out.2 _ (ix_mem h0 h1))
theorem wrapU_ok2 (x : Int) : u64ok (IntKind.wrap .u64 x) := by
  show u64ok (if (false && decide (x % 18446744073709551616 ≥ (2 ^ 63 : Int))) = true then x % 18446744073709551616 - 18446744073709551616 else x % 18446744073709551616)
  rw [Bool.false_and, if_neg (by simp)]
  unfold u64ok
  omega
/-- A book's numbers are what they may be. -/
structure BkU (b : Bo) (n : Int) : Prop where
  len : b.1.length ≤ 4096
  turn : 0 ≤ b.2.1 ∧ b.2.1 ≤ n
  all : ∀ t ∈ b.1, TmU t
section
variable {b : Bo} {n m k : Int}
theorem TmU.zero {t : Bool} {s : Int} : TmU (t, s, 0, 0, 0, 0) := ⟨u0, u0, u0⟩
theorem BkU.mono (h : BkU b n) (hm : n ≤ m) : BkU b m := ⟨h.len, ⟨h.turn.1, by have := h.turn.2; omega⟩, h.all⟩
theorem BkU.new (r : Nat) (now : Int) (hr : r ≤ 4096) : BkU (List.replicate r noTm, 0, now) 0 := ⟨by simpa using hr, ⟨Int.le_refl _, Int.le_refl _⟩, fun t ht => by
  obtain rfl := List.eq_of_mem_replicate ht
  exact TmU.zero⟩
theorem BkU.set {t : Tm} (h : BkU b n) (ht : TmU t) (i : Nat) : BkU (b.1.set i t, b.2) n := ⟨by simpa using h.len, h.turn, fun u hu => by
  rcases List.mem_or_eq_of_mem_set hu with hu | rfl
  · exact h.all u hu
  · exact ht⟩
theorem BkU.make (h : BkU b n) (k : Int) (ok : Bool) : BkU (makeB b k ok) n := by
  unfold makeB
  split
  · exact h.set TmU.zero _
  · exact h
theorem BkU.free (h : BkU b n) (k : Int) : BkU (freeB b k) n := by
  unfold freeB
  split
  · exact h.set TmU.zero _
  · exact h
theorem BkU.stop (h : BkU b n) (k : Int) : BkU (stopB b k) n := by
  unfold stopB
  split
  · exact h.set TmU.zero _
  · exact h
theorem BkU.arm {hd at_ p : Int} (h : BkU b n) (k : Int) (h1 : u64ok hd) (h2 : u64ok at_) (h3 : u64ok p) : BkU (armB b k hd at_ p) (n + 1) := by
  have := h.turn
  unfold armB
  split
  · exact ⟨by simpa using h.len, ⟨by simp only; omega, by simp only; omega⟩, (h.set (t := (true, 1, hd, at_, p, b.2.1 + 1)) ⟨h1, h2, h3⟩ k.toNat).all⟩
  · exact h.mono (by omega)
theorem BkU.to (h : BkU b n) (to : Int) : BkU (toB b to) n := ⟨by unfold toB; simpa using h.len, h.turn, fun t ht => by
  obtain ⟨u, hu, rfl⟩ := List.mem_map.1 (show t ∈ b.1.map _ from ht)
  split
  · exact ⟨(h.all u hu).h, (h.all u hu).a, (h.all u hu).p⟩
  · exact h.all u hu⟩
theorem BkU.at_ (h : BkU b n) {k : Int} (h0 : 0 ≤ k) (h1 : k < b.1.length) : TmU (ix b.1 k) := h.all _ (ix_mem h0 h1)
theorem BkU.sent {stamp : Int} (h : BkU b n) (k : Int) (hs : u64ok stamp) : BkU (sentB b k stamp).1 (n + 1) := by
  unfold sentB
  split
  · rename_i hi
    simp only
    have hi : isB b k = true := by unfold sentI at hi; simp only [Bool.and_eq_true] at hi; exact hi.1
    obtain ⟨k0, k1, _⟩ := isB_iff.1 hi
    have ht := h.at_ k0 k1
    split
    · exact h.arm k ht.h (next_u64 ht.a ht.p hs) ht.p
    · exact (h.set TmU.zero _).mono (by omega)
  · exact h.mono (by omega)
end
theorem NextP.found {q : Int → Bool} {n o j : Int} {b : Bool} (h : NextP q 0 n o b) (j0 : 0 ≤ j) (j1 : j < n) (hq : q j = true) (hp : ∀ i, 0 ≤ i → i < j → q i = false) : o = j ∧ b = true := by
  rcases h with ⟨rfl, h0, h1, h2, h3⟩ | ⟨rfl, _, h3⟩
  · refine ⟨?_, rfl⟩
    rcases Int.lt_trichotomy o j with c | c | c
    · rw [hp o (by omega) c] at h2; cases h2
    · exact c
    · rw [h3 j (by omega) c] at hq; cases hq
  · rw [h3 j (by omega) j1] at hq; cases hq
theorem NextP.none {q : Int → Bool} {n o : Int} {b : Bool} (h : NextP q 0 n o b) (hp : ∀ i, 0 ≤ i → i < n → q i = false) : o = 0 ∧ b = false := by
  rcases h with ⟨rfl, h0, h1, h2, h3⟩ | ⟨rfl, ho, h3⟩
  · rw [hp o (by omega) h1] at h2; cases h2
  · exact ⟨ho, rfl⟩
/-! ### Who is told -/
section
variable {w : Wh} {to k : Int}
theorem outR_mem : k ∈ outR w to ↔ 0 ≤ k ∧ k < w.1.length ∧ dueB w.1 (nowR w to) k = true := by unfold outR; rw [srt_mem, dueN_mem]
theorem outR_length : (outR w to).length = (dueN w.1 (nowR w to) w.1.length).length := by unfold outR; exact srt_length _ _
theorem outR_nodup : (outR w to).Nodup := by unfold outR; exact (srt_perm _ _).nodup_iff.2 (dueN_nodup _ _ _)
theorem outR_eq {l : List Int} (hm : ∀ k, k ∈ l ↔ 0 ≤ k ∧ k < w.1.length ∧ dueB w.1 (nowR w to) k = true) (hs : l.Pairwise (ltM (mkAt w.1))) : outR w to = l := by
  have hn : l.Nodup := hs.imp fun h e => by subst e; exact ltM.irr h
  unfold outR
  refine (srt_eq (dueN_nodup _ _ _) ?_ hs).symm
  exact (List.perm_ext_iff_of_nodup hn (dueN_nodup _ _ _)).2 fun k => by rw [hm, dueN_mem]
theorem outR_pair : (outR w to).Pairwise (ltM (mkAt w.1)) := by unfold outR; exact srt_pair _ (dueN_nodup _ _ _)
end
end Go.Proofs.YtplefbcgpbdkfaaDoor
/- Package nightjarlaw08: its own functions. -/
namespace Go.Proofs.YtplefbcgpbdkfaaDoor
open Go Go.Fx
-- ENV: KN
theorem freeG_new (n : Nat) (hn : n ≤ 4096) : freeG (List.replicate n (false, noRw)) := ⟨by simpa using hn, fun k k0 k1 => by
  simp only [List.length_replicate] at k1
  unfold ix
  rw [List.getD_eq_getElem?_getD, List.getElem?_replicate, if_pos (by omega)]
  rfl⟩
theorem outR_21 (a b c d t : Int) (h : d < b) (h0 : b ≤ t) (hc : c < t) : outR ([(true, b, a), (true, d, a + 1)], c) t = [1, 0] := by
  have e : nowR ([(true, b, a), (true, d, a + 1)], c) t = t := if_pos hc
  refine outR_eq (fun k => ?_) ?_
  · rw [e]
    constructor
    · intro hk
      simp only [List.mem_cons, List.not_mem_nil, or_false] at hk
      rcases hk with rfl | rfl
      · refine ⟨by decide, Int.lt_of_lt_of_le (by decide : (1 : Int) < 2) (Int.le_refl 2), ?_⟩
        show (true && decide (d ≤ t)) = true
        simp; omega
      · refine ⟨by decide, Int.lt_of_lt_of_le (by decide : (0 : Int) < 2) (Int.le_refl 2), ?_⟩
        show (true && decide (b ≤ t)) = true
        simp; omega
    · rintro ⟨k0, k1, _⟩
      have k1 : k < 2 := k1
      simp only [List.mem_cons, List.not_mem_nil, or_false]
      omega
  · refine List.pairwise_pair.2 (.inl ?_)
    exact h

set_option maxRecDepth 10000 in
theorem lbook_vc :
  ∀ x0 : Int,
 ∀ x1 : Int,
 ∀ x2 : ArG,
 ∀ x3 : Ar,
 (u64ok x1) →
 (List.length [(2 : Int), x0] ≤ (1000 : Nat)) ∧
 (∀ x4 : List (Int × Int),
 ∀ x5 : ArG,
 (NewG [(2 : Int), x0] x2 x4 x5) →
 (((0 : Int) ≤ (1 : Int)) ∧
 ((1 : Int) < (↑(List.length x4) : Int))) ∧
 (True →
 ((hasA (ix x4 (1 : Int)) x5 = true) ∧
 ((u64ok x1) ∧
 (freeG (rgA (ix x4 (1 : Int)) x5)))) ∧
 (∀ x6 : (Int × Int),
 ∀ x7 : ArG,
 ∀ x8 : Ar,
 ((((0 : Int) ≤ Prod.fst x6) ∧
 ((0 : Int) ≤ Prod.snd x6)) ∧
 ((freshA x3 x6) ∧
 (UpA x6 (List.replicate (List.length (rgA (ix x4 (1 : Int)) x5)) noTm, (0 : Int), x1) x3 x8))) →
 ∃ x9 : (Int × Int),
 ∃ x10 : ArG,
 ∃ x11 : Ar,
 ((((0 : Int) ≤ Prod.fst x9) ∧
 ((0 : Int) ≤ Prod.snd x9)) ∧
 ((freshA x3 x9) ∧
 (UpA x9 (newB (cut256 x0) x1) x3 x11))) ∧
 ((x6 = x9) ∧
 ((x7 = x10) ∧
 ((x8 = x11) ∧
        (True))))))) := by
  intro room now g l hn
  refine ⟨by simp, ?_⟩
  intro ps g1 hg
  have hl : ps.length = 2 := by have := hg.len; simp at this; omega
  obtain ⟨_, h2, h3⟩ := hg.is 1 (by decide) (by omega)
  refine ⟨⟨by decide, by omega⟩, fun _ => ⟨⟨h2, hn, ?_⟩, ?_⟩⟩
  · rw [h3]; exact freeG_new _ (by have := cut256_le (ix [2, room] 1); omega)
  · rintro q g' l' ⟨hq, hf, hu⟩
    rw [h3, List.length_replicate] at hu
    exact ⟨q, g', l', ⟨hq, hf, hu⟩, rfl, rfl, rfl, trivial⟩
set_option maxRecDepth 10000 in
theorem lbook_ok : conLBook.ok KN Tryd.prog 9 := by
  refine Con.of_vc ([]) ([]) ([]) TT_ok follows Tryd.func9 ?_ G106_ok (@toVC _ _ lbook_vc ?_)
  · kernel_rfl
  · kernel_rfl
noncomputable def G107 : List (FuncId × Con) := (9, conLBook) :: G106
theorem G107_ok : GOK KN Tryd.prog G107 := GOK.cons (Callable.of Tryd.func9 (by kernel_rfl) (by kernel_rfl)) lbook_ok G106_ok

set_option maxRecDepth 10000 in
theorem lsame_vc :
  ∀ x0 : (Int × Int),
 ∀ x1 : Bo,
 ∀ x2 : Int,
 ∀ x3 : Ar,
 ((hasA x0 x3 = true) ∧
 ((bkA x0 x3 = x1) ∧
 (List.length (Prod.fst x1) ≤ (4096 : Nat)))) →
 (hasA x0 x3 = true) ∧
 (∀ x4 : Ar,
 (UpA x0 (bkA x0 x3) x3 x4) →
 ∀ x5 : (Int × (Int × (Int × Int))),
 (x5 = lookB (bkA x0 x3) x2) →
 ∀ x6 : (Int × (Int × (Int × Int))),
 (x6 = ((0 : Int), (0 : Int), (0 : Int), (0 : Int))) →
 (True) ∧
 (True →
 ((isB x1 x2 = true) →
 (((0 : Int) ≤ x2) ∧
 (x2 < (↑(List.length (Prod.fst x1)) : Int))) ∧
 (∀ x7 : (Bool × (Int × (Int × (Int × (Int × Int))))),
 (x7 = ix (Prod.fst x1) x2) →
 ∀ x8 : (Bool × (Int × (Int × (Int × (Int × Int))))),
 (x8 = x7) →
 ∀ x9 : (Int × (Int × (Int × Int))),
 (x9 = (Prod.fst (Prod.snd x8), Prod.fst (Prod.snd (Prod.snd x8)), Prod.fst (Prod.snd (Prod.snd (Prod.snd x8))), Prod.fst (Prod.snd (Prod.snd (Prod.snd (Prod.snd x8)))))) →
 (List.length (Prod.fst x1) ≤ (4096 : Nat)) ∧
 (True →
 (True) ∧
 (True →
 (((isB (bkA x0 x3) x2 == isB x1 x2) = true) →
 ((same x5 x9 = true) →
 (hasA x0 x4 = true) ∧
 (∀ x10 : Ar,
 (UpA x0 (bkA x0 x4) x4 x10) →
 ((litCmp BinOp.eql (Prod.fst (cntB (Prod.fst (bkA x0 x4)))) (Prod.fst (cntB (Prod.fst x1))) = true) →
 (hasA x0 x10 = true) ∧
 (∀ x11 : Ar,
 (UpA x0 (bkA x0 x10) x10 x11) →
 ∃ x12 : Ar,
 (UpA x0 x1 x3 x12) ∧
 ((litCmp BinOp.eql (Prod.snd (cntB (Prod.fst (bkA x0 x10)))) (Prod.snd (cntB (Prod.fst x1))) = true) ∧
 ((x11 = x12) ∧
 (True))))) ∧
 ((litCmp BinOp.eql (Prod.fst (cntB (Prod.fst (bkA x0 x4)))) (Prod.fst (cntB (Prod.fst x1))) = false) →
 ∃ x13 : Ar,
 (UpA x0 x1 x3 x13) ∧
 ((false = true) ∧
 ((x10 = x13) ∧
 (True)))))) ∧
 ((same x5 x9 = false) →
 ∃ x14 : Ar,
 (UpA x0 x1 x3 x14) ∧
 ((false = true) ∧
 ((x4 = x14) ∧
 (True))))) ∧
 (((isB (bkA x0 x3) x2 == isB x1 x2) = false) →
 ∃ x15 : Ar,
 (UpA x0 x1 x3 x15) ∧
 ((false = true) ∧
 ((x4 = x15) ∧
 (True)))))))) ∧
 ((isB x1 x2 = false) →
 (List.length (Prod.fst x1) ≤ (4096 : Nat)) ∧
 (True →
 (True) ∧
 (True →
 (((isB (bkA x0 x3) x2 == isB x1 x2) = true) →
 ((same x5 x6 = true) →
 (hasA x0 x4 = true) ∧
 (∀ x16 : Ar,
 (UpA x0 (bkA x0 x4) x4 x16) →
 ((litCmp BinOp.eql (Prod.fst (cntB (Prod.fst (bkA x0 x4)))) (Prod.fst (cntB (Prod.fst x1))) = true) →
 (hasA x0 x16 = true) ∧
 (∀ x17 : Ar,
 (UpA x0 (bkA x0 x16) x16 x17) →
 ∃ x18 : Ar,
 (UpA x0 x1 x3 x18) ∧
 ((litCmp BinOp.eql (Prod.snd (cntB (Prod.fst (bkA x0 x16)))) (Prod.snd (cntB (Prod.fst x1))) = true) ∧
 ((x17 = x18) ∧
 (True))))) ∧
 ((litCmp BinOp.eql (Prod.fst (cntB (Prod.fst (bkA x0 x4)))) (Prod.fst (cntB (Prod.fst x1))) = false) →
 ∃ x19 : Ar,
 (UpA x0 x1 x3 x19) ∧
 ((false = true) ∧
 ((x16 = x19) ∧
 (True)))))) ∧
 ((same x5 x6 = false) →
 ∃ x20 : Ar,
 (UpA x0 x1 x3 x20) ∧
 ((false = true) ∧
 ((x4 = x20) ∧
 (True))))) ∧
 (((isB (bkA x0 x3) x2 == isB x1 x2) = false) →
 ∃ x21 : Ar,
 (UpA x0 x1 x3 x21) ∧
 ((false = true) ∧
 ((x4 = x21) ∧
          (True))))))))) := by
  rintro e _ k l ⟨he, rfl, hl⟩
  refine ⟨he, ?_⟩
  rintro l1 h1 _ rfl _ rfl
  have last : ∀ {l2 : Ar}, UpA e (bkA e l1) l1 l2 → (litCmp BinOp.eql (cntB (bkA e l1).1).1 (cntB (bkA e l).1).1 = true → hasA e l2 = true ∧ ∀ l3 : Ar, UpA e (bkA e l2) l2 l3 → ∃ l4 : Ar, UpA e (bkA e l) l l4 ∧ litCmp BinOp.eql (cntB (bkA e l2).1).2 (cntB (bkA e l).1).2 = true ∧ l3 = l4 ∧ True) ∧ (litCmp BinOp.eql (cntB (bkA e l1).1).1 (cntB (bkA e l).1).1 = false → ∃ l4 : Ar, UpA e (bkA e l) l l4 ∧ false = true ∧ l2 = l4 ∧ True) := by
    intro l2 h2
    refine ⟨fun _ => ⟨h2.has, fun l3 h3 => ⟨l3, ?_, ?_, rfl, trivial⟩⟩, fun q => ?_⟩
    · have := (h1.trans h2).trans h3
      rw [h2.is, h1.is] at this
      exact this
    · rw [eqlT, h2.is, h1.is]
    · rw [eqlF, h1.is] at q
      exact absurd rfl q
  refine ⟨trivial, fun _ => ⟨fun hi => ?_, fun hi => ?_⟩⟩
  · obtain ⟨k0, k1, _⟩ := isB_iff.1 hi
    refine ⟨⟨k0, k1⟩, ?_⟩
    rintro _ rfl _ rfl _ rfl
    refine ⟨hl, fun _ => ⟨trivial, fun _ => ⟨fun _ => ⟨fun _ => ⟨h1.has, fun l2 h2 => last h2⟩, fun q => ?_⟩, fun q => ?_⟩⟩⟩
    · rw [show lookB (bkA e l) k = _ from if_pos hi, same_self] at q; cases q
    · simp at q
  · refine ⟨hl, fun _ => ⟨trivial, fun _ => ⟨fun _ => ⟨fun _ => ⟨h1.has, fun l2 h2 => last h2⟩, fun q => ?_⟩, fun q => ?_⟩⟩⟩
    · rw [show lookB (bkA e l) k = _ from if_neg (by rw [hi]; decide), same_self] at q; cases q
    · simp at q
set_option maxRecDepth 10000 in
theorem lsame_ok : conLSame.ok KN Tryd.prog 24 := by
  refine Con.of_vc ([]) ([]) ([]) TT_ok follows Tryd.func24 ?_ G107_ok (@toVC _ _ lsame_vc ?_)
  · kernel_rfl
  · kernel_rfl
noncomputable def G108 : List (FuncId × Con) := (24, conLSame) :: G107
theorem G108_ok : GOK KN Tryd.prog G108 := GOK.cons (Callable.of Tryd.func24 (by kernel_rfl) (by kernel_rfl)) lsame_ok G107_ok

set_option maxRecDepth 10000 in
theorem lalive_vc :
  ∀ x0 : ArG,
 ∀ x1 : Ar,
 True →
 ((1 : Nat) ≤ (1000 : Nat)) ∧
 (∀ x2 : List (Int × Int),
 ∀ x3 : ArG,
 (NewG [(2 : Int)] x0 x2 x3) →
 (((0 : Int) ≤ (0 : Int)) ∧
 ((0 : Int) < (↑(List.length x2) : Int))) ∧
 (True →
 ((decide (Prod.fst (ix x2 (0 : Int)) < (0 : Int)) = true) →
 ∃ x4 : ArG,
 ∃ x5 : Ar,
 (True) ∧
 ((false = true) ∧
 ((x3 = x4) ∧
 ((x1 = x5) ∧
 (True))))) ∧
 ((decide (Prod.fst (ix x2 (0 : Int)) < (0 : Int)) = false) →
 (((0 : Int) ≤ (0 : Int)) ∧
 ((0 : Int) < (↑(List.length x2) : Int))) ∧
 (True →
 ((hasA (ix x2 (0 : Int)) x3 = true) ∧
 ((u64ok (100 : Int)) ∧
 (freeG (rgA (ix x2 (0 : Int)) x3)))) ∧
 (∀ x6 : (Int × Int),
 ∀ x7 : ArG,
 ∀ x8 : Ar,
 ((((0 : Int) ≤ Prod.fst x6) ∧
 ((0 : Int) ≤ Prod.snd x6)) ∧
 ((freshA x1 x6) ∧
 (UpA x6 (List.replicate (List.length (rgA (ix x2 (0 : Int)) x3)) noTm, (0 : Int), (100 : Int)) x1 x8))) →
 ((decide (Prod.fst x6 < (0 : Int)) = true) →
 ∃ x9 : ArG,
 ∃ x10 : Ar,
 (True) ∧
 ((false = true) ∧
 ((x7 = x9) ∧
 ((x8 = x10) ∧
 (True))))) ∧
 ((decide (Prod.fst x6 < (0 : Int)) = false) →
 (hasA x6 x8 = true) ∧
 (∀ x11 : Int,
 ∀ x12 : Bool,
 ∀ x13 : Ar,
 ((NextP (fun (i : Int) => !Prod.fst (ix (Prod.fst (bkA x6 x8)) i)) (0 : Int) (↑(List.length (Prod.fst (bkA x6 x8))) : Int) x11 x12) ∧
 (UpA x6 (makeB (bkA x6 x8) x11 x12) x8 x13)) →
 (hasA x6 x13 = true) ∧
 (∀ x14 : Int,
 ∀ x15 : Bool,
 ∀ x16 : Ar,
 ((NextP (fun (i : Int) => !Prod.fst (ix (Prod.fst (bkA x6 x13)) i)) (0 : Int) (↑(List.length (Prod.fst (bkA x6 x13))) : Int) x14 x15) ∧
 (UpA x6 (makeB (bkA x6 x13) x14 x15) x13 x16)) →
 (hasA x6 x16 = true) ∧
 (∀ x17 : Int,
 ∀ x18 : Bool,
 ∀ x19 : Ar,
 ((NextP (fun (i : Int) => !Prod.fst (ix (Prod.fst (bkA x6 x16)) i)) (0 : Int) (↑(List.length (Prod.fst (bkA x6 x16))) : Int) x17 x18) ∧
 (UpA x6 (makeB (bkA x6 x16) x17 x18) x16 x19)) →
 ((hasA x6 x19 = true) ∧
 ((u64ok (7 : Int)) ∧
 ((u64ok (150 : Int)) ∧
 ((u64ok (20 : Int)) ∧
 (okTurn (bkA x6 x19)))))) ∧
 (∀ x20 : Ar,
 (UpA x6 (armB (bkA x6 x19) x11 (7 : Int) (150 : Int) (20 : Int)) x19 x20) →
 ((hasA x6 x20 = true) ∧
 ((u64ok (8 : Int)) ∧
 ((u64ok (140 : Int)) ∧
 ((u64ok (0 : Int)) ∧
 (okTurn (bkA x6 x20)))))) ∧
 (∀ x21 : Ar,
 (UpA x6 (armB (bkA x6 x20) x14 (8 : Int) (140 : Int) (0 : Int)) x20 x21) →
 ((hasA x6 x21 = true) ∧
 (u64ok (160 : Int))) ∧
 (∀ x22 : List Int,
 ∀ x23 : Ar,
 ((x22 = outR (whB (bkA x6 x21)) (160 : Int)) ∧
 (UpA x6 (toB (bkA x6 x21) (160 : Int)) x21 x23)) →
 ((hasA x6 x23 = true) ∧
 ((u64ok (160 : Int)) ∧
 (okTurn (bkA x6 x23)))) ∧
 (∀ x24 : Int,
 ∀ x25 : Ar,
 ((x24 = Prod.snd (sentB (bkA x6 x23) x14 (160 : Int))) ∧
 (UpA x6 (Prod.fst (sentB (bkA x6 x23) x14 (160 : Int))) x23 x25)) →
 ((hasA x6 x25 = true) ∧
 ((u64ok (160 : Int)) ∧
 (okTurn (bkA x6 x25)))) ∧
 (∀ x26 : Int,
 ∀ x27 : Ar,
 ((x26 = Prod.snd (sentB (bkA x6 x25) x11 (160 : Int))) ∧
 (UpA x6 (Prod.fst (sentB (bkA x6 x25) x11 (160 : Int))) x25 x27)) →
 (hasA x6 x27 = true) ∧
 (∀ x28 : Ar,
 (UpA x6 (bkA x6 x27) x27 x28) →
 ∀ x29 : (Int × (Int × (Int × Int))),
 (x29 = lookB (bkA x6 x27) x11) →
 (hasA x6 x28 = true) ∧
 (∀ x30 : Ar,
 (UpA x6 (bkA x6 x28) x28 x30) →
 ∀ x31 : (Int × (Int × (Int × Int))),
 (x31 = lookB (bkA x6 x28) x14) →
 ((x12 = true) →
 ((x15 = true) →
 ((litCmp BinOp.eql x11 (0 : Int) = true) →
 ((litCmp BinOp.eql x14 (1 : Int) = true) →
 (((!x18) = true) →
 (List.length x22 ≤ (1000000 : Nat)) ∧
 (True →
 ((same x22 [(1 : Int), (0 : Int)] = true) →
 ((litCmp BinOp.eql x24 (1 : Int) = true) →
 ((litCmp BinOp.eql x26 (1 : Int) = true) →
 ((isB (bkA x6 x27) x11 = true) →
 ((same x29 ((1 : Int), (7 : Int), (170 : Int), (20 : Int)) = true) →
 ((isB (bkA x6 x28) x14 = true) →
 ((same x31 ((0 : Int), (0 : Int), (0 : Int), (0 : Int)) = true) →
 (hasA x6 x30 = true) ∧
 (∀ x32 : Ar,
 (UpA x6 (stopB (bkA x6 x30) x11) x30 x32) →
 ((stopI (bkA x6 x30) x11 = true) →
 (hasA x6 x32 = true) ∧
 (∀ x33 : Ar,
 (UpA x6 (stopB (bkA x6 x32) x11) x32 x33) →
 (((!stopI (bkA x6 x32) x11) = true) →
 (hasA x6 x33 = true) ∧
 (∀ x34 : Ar,
 (UpA x6 (bkA x6 x33) x33 x34) →
 ((litCmp BinOp.eql (Prod.snd (cntB (Prod.fst (bkA x6 x33)))) (0 : Int) = true) →
 (hasA x6 x34 = true) ∧
 (∀ x35 : Ar,
 (UpA x6 (freeB (bkA x6 x34) (0 : Int)) x34 x35) →
 ((isB (bkA x6 x34) (0 : Int) = true) →
 (hasA x6 x35 = true) ∧
 (∀ x36 : Ar,
 (UpA x6 (bkA x6 x35) x35 x36) →
 ∃ x37 : ArG,
 ∃ x38 : Ar,
 (True) ∧
 ((litCmp BinOp.eql (Prod.fst (cntB (Prod.fst (bkA x6 x35)))) (1 : Int) = true) ∧
 ((x7 = x37) ∧
 ((x36 = x38) ∧
 (True)))))) ∧
 ((isB (bkA x6 x34) (0 : Int) = false) →
 ∃ x39 : ArG,
 ∃ x40 : Ar,
 (True) ∧
 ((false = true) ∧
 ((x7 = x39) ∧
 ((x35 = x40) ∧
 (True))))))) ∧
 ((litCmp BinOp.eql (Prod.snd (cntB (Prod.fst (bkA x6 x33)))) (0 : Int) = false) →
 ∃ x41 : ArG,
 ∃ x42 : Ar,
 (True) ∧
 ((false = true) ∧
 ((x7 = x41) ∧
 ((x34 = x42) ∧
 (True))))))) ∧
 (((!stopI (bkA x6 x32) x11) = false) →
 ∃ x43 : ArG,
 ∃ x44 : Ar,
 (True) ∧
 ((false = true) ∧
 ((x7 = x43) ∧
 ((x33 = x44) ∧
 (True))))))) ∧
 ((stopI (bkA x6 x30) x11 = false) →
 ∃ x45 : ArG,
 ∃ x46 : Ar,
 (True) ∧
 ((false = true) ∧
 ((x7 = x45) ∧
 ((x32 = x46) ∧
 (True))))))) ∧
 ((same x31 ((0 : Int), (0 : Int), (0 : Int), (0 : Int)) = false) →
 ∃ x47 : ArG,
 ∃ x48 : Ar,
 (True) ∧
 ((false = true) ∧
 ((x7 = x47) ∧
 ((x30 = x48) ∧
 (True)))))) ∧
 ((isB (bkA x6 x28) x14 = false) →
 ∃ x49 : ArG,
 ∃ x50 : Ar,
 (True) ∧
 ((false = true) ∧
 ((x7 = x49) ∧
 ((x30 = x50) ∧
 (True)))))) ∧
 ((same x29 ((1 : Int), (7 : Int), (170 : Int), (20 : Int)) = false) →
 ∃ x51 : ArG,
 ∃ x52 : Ar,
 (True) ∧
 ((false = true) ∧
 ((x7 = x51) ∧
 ((x30 = x52) ∧
 (True)))))) ∧
 ((isB (bkA x6 x27) x11 = false) →
 ∃ x53 : ArG,
 ∃ x54 : Ar,
 (True) ∧
 ((false = true) ∧
 ((x7 = x53) ∧
 ((x30 = x54) ∧
 (True)))))) ∧
 ((litCmp BinOp.eql x26 (1 : Int) = false) →
 ∃ x55 : ArG,
 ∃ x56 : Ar,
 (True) ∧
 ((false = true) ∧
 ((x7 = x55) ∧
 ((x30 = x56) ∧
 (True)))))) ∧
 ((litCmp BinOp.eql x24 (1 : Int) = false) →
 ∃ x57 : ArG,
 ∃ x58 : Ar,
 (True) ∧
 ((false = true) ∧
 ((x7 = x57) ∧
 ((x30 = x58) ∧
 (True)))))) ∧
 ((same x22 [(1 : Int), (0 : Int)] = false) →
 ∃ x59 : ArG,
 ∃ x60 : Ar,
 (True) ∧
 ((false = true) ∧
 ((x7 = x59) ∧
 ((x30 = x60) ∧
 (True))))))) ∧
 (((!x18) = false) →
 ∃ x61 : ArG,
 ∃ x62 : Ar,
 (True) ∧
 ((false = true) ∧
 ((x7 = x61) ∧
 ((x30 = x62) ∧
 (True)))))) ∧
 ((litCmp BinOp.eql x14 (1 : Int) = false) →
 ∃ x63 : ArG,
 ∃ x64 : Ar,
 (True) ∧
 ((false = true) ∧
 ((x7 = x63) ∧
 ((x30 = x64) ∧
 (True)))))) ∧
 ((litCmp BinOp.eql x11 (0 : Int) = false) →
 ∃ x65 : ArG,
 ∃ x66 : Ar,
 (True) ∧
 ((false = true) ∧
 ((x7 = x65) ∧
 ((x30 = x66) ∧
 (True)))))) ∧
 ((x15 = false) →
 ∃ x67 : ArG,
 ∃ x68 : Ar,
 (True) ∧
 ((false = true) ∧
 ((x7 = x67) ∧
 ((x30 = x68) ∧
 (True)))))) ∧
 ((x12 = false) →
 ∃ x69 : ArG,
 ∃ x70 : Ar,
 (True) ∧
 ((false = true) ∧
 ((x7 = x69) ∧
 ((x30 = x70) ∧
                      (True))))))))))))))))))))) := by
  intro g l _
  refine ⟨by decide, ?_⟩
  intro ps g1 hg
  have hl : ps.length = 1 := by have := hg.len; simp at this; omega
  obtain ⟨⟨p0, _⟩, h2, h3⟩ := hg.is 0 (by decide) (by omega)
  refine ⟨⟨by decide, by omega⟩, fun _ => ⟨fun q => by rw [decide_eq_true_eq] at q; omega, fun _ => ⟨⟨by decide, by omega⟩, fun _ => ⟨⟨h2, ⟨by decide, by decide⟩, ?_⟩, ?_⟩⟩⟩⟩
  · rw [h3]; exact freeG_new _ (by have := cut256_le (ix [2] 0); omega)
  rintro e g2 l0 ⟨⟨e0, _⟩, _, u0⟩
  rw [h3, List.length_replicate] at u0
  have b0 : bkA e l0 = ([noTm, noTm], 0, 100) := u0.is
  refine ⟨fun q => by rw [decide_eq_true_eq] at q; omega, fun _ => ⟨u0.has, ?_⟩⟩
  rintro k ok l1 ⟨n1, u1⟩
  rw [b0] at n1 u1
  obtain ⟨rfl, rfl⟩ := n1.found (j := 0) (by decide) (by decide) rfl (fun i i0 i1 => by omega)
  have b1 : bkA e l1 = ([idle, noTm], 0, 100) := u1.is
  refine ⟨u1.has, ?_⟩
  rintro j is l2 ⟨n2, u2⟩
  rw [b1] at n2 u2
  have z2 : ∀ i : Int, 0 ≤ i → i < 1 → (!(ix [idle, noTm] i).1) = false := by
    intro i i0 i1
    obtain rfl : i = 0 := by omega
    rfl
  obtain ⟨rfl, rfl⟩ := n2.found (j := 1) (by decide) (by decide) rfl z2
  have b2 : bkA e l2 = ([idle, idle], 0, 100) := u2.is
  refine ⟨u2.has, ?_⟩
  rintro z full l3 ⟨n3, u3⟩
  rw [b2] at n3 u3
  obtain ⟨rfl, rfl⟩ := n3.none (fun i i0 i1 => by
    have i1 : i < 2 := i1
    rcases (show i = 0 ∨ i = 1 by omega) with rfl | rfl <;> rfl)
  have b3 : bkA e l3 = ([idle, idle], 0, 100) := u3.is
  refine ⟨⟨u3.has, ⟨by decide, by decide⟩, ⟨by decide, by decide⟩, ⟨by decide, by decide⟩, by rw [b3]; exact ⟨by decide, by decide⟩⟩, ?_⟩
  intro l4 u4
  rw [b3] at u4
  have b4 : bkA e l4 = ([(true, 1, 7, 150, 20, 1), idle], 1, 100) := u4.is
  refine ⟨⟨u4.has, ⟨by decide, by decide⟩, ⟨by decide, by decide⟩, ⟨by decide, by decide⟩, by rw [b4]; exact ⟨by decide, by decide⟩⟩, ?_⟩
  intro l5 u5
  rw [b4] at u5
  have b5 : bkA e l5 = ([(true, 1, 7, 150, 20, 1), (true, 1, 8, 140, 0, 2)], 2, 100) := u5.is
  refine ⟨⟨u5.has, by decide, by decide⟩, ?_⟩
  rintro o l6 ⟨ho, u6⟩
  rw [b5] at ho u6
  obtain rfl : o = [1, 0] := ho.trans (outR_21 1 150 100 140 160 (by decide) (by decide) (by decide))
  have b6 : bkA e l6 = ([(true, 2, 7, 150, 20, 1), (true, 2, 8, 140, 0, 2)], 2, 160) := u6.is
  refine ⟨⟨u6.has, ⟨by decide, by decide⟩, by rw [b6]; exact ⟨by decide, by decide⟩⟩, ?_⟩
  rintro n l7 ⟨hn, u7⟩
  rw [b6] at hn u7
  have b7 : bkA e l7 = ([(true, 2, 7, 150, 20, 1), idle], 2, 160) := u7.is
  have hn : n = 1 := hn
  subst hn
  refine ⟨⟨u7.has, ⟨by decide, by decide⟩, by rw [b7]; exact ⟨by decide, by decide⟩⟩, ?_⟩
  rintro m l8 ⟨hm, u8⟩
  rw [b7] at hm u8
  have b8 : bkA e l8 = ([(true, 1, 7, 170, 20, 3), idle], 3, 160) := u8.is
  have hm : m = 1 := hm
  subst hm
  refine ⟨u8.has, ?_⟩
  rintro l9 u9 r hr
  rw [b8] at hr u9
  have b9 := u9.is
  have hr : r = (1, 7, 170, 20) := hr
  subst hr
  refine ⟨u9.has, ?_⟩
  rintro l10 u10 q hq
  rw [b9] at hq u10
  have b10 := u10.is
  have hq : q = (0, 0, 0, 0) := hq
  subst hq
  have no : ∀ {l' : Ar} {p : Prop} {b : Bool}, b = true → b = false → p := fun h h' => by rw [h] at h'; cases h'
  refine ⟨fun _ => ⟨fun _ => ⟨fun _ => ⟨fun _ => ⟨fun _ => ⟨by decide, fun _ => ⟨fun _ => ⟨fun _ => ⟨fun _ => ⟨fun _ => ⟨fun _ => ⟨fun _ => ⟨fun _ => ⟨u10.has, ?_⟩, ?_⟩, ?_⟩, ?_⟩, ?_⟩, ?_⟩, ?_⟩, ?_⟩⟩, ?_⟩, ?_⟩, ?_⟩, ?_⟩, ?_⟩
  · intro l11 u11
    rw [b10] at u11 ⊢
    have b11 : bkA e l11 = ([idle, idle], 3, 160) := u11.is
    refine ⟨fun _ => ⟨u11.has, ?_⟩, fun q => by cases q⟩
    intro l12 u12
    rw [b11] at u12 ⊢
    have b12 : bkA e l12 = ([idle, idle], 3, 160) := u12.is
    refine ⟨fun _ => ⟨u12.has, ?_⟩, fun q => by cases q⟩
    intro l13 u13
    rw [b12] at u13 ⊢
    have b13 := u13.is
    refine ⟨fun _ => ⟨u13.has, ?_⟩, fun q => by cases q⟩
    intro l14 u14
    rw [b13] at u14 ⊢
    have b14 : bkA e l14 = ([noTm, idle], 3, 160) := u14.is
    refine ⟨fun _ => ⟨u14.has, ?_⟩, fun q => by cases q⟩
    intro l15 u15
    rw [b14]
    exact ⟨g2, l15, trivial, rfl, rfl, rfl, trivial⟩
  all_goals intro q
  · rw [same_self] at q; cases q
  · rw [b9] at q; cases q
  · rw [same_self] at q; cases q
  · rw [b8] at q; cases q
  · cases q
  · cases q
  · rw [same_self] at q; cases q
  all_goals cases q
set_option maxRecDepth 10000 in
theorem lalive_ok : conLAlive.ok KN Tryd.prog 8 := by
  refine Con.of_vc ([]) ([]) ([]) TT_ok follows Tryd.func8 ?_ G108_ok (@toVC _ _ lalive_vc ?_)
  · kernel_rfl
  · kernel_rfl
noncomputable def G109 : List (FuncId × Con) := (8, conLAlive) :: G108
theorem G109_ok : GOK KN Tryd.prog G109 := GOK.cons (Callable.of Tryd.func8 (by kernel_rfl) (by kernel_rfl)) lalive_ok G108_ok
end Go.Proofs.YtplefbcgpbdkfaaDoor
/- Package nightjarlaw08: the laws' contracts. -/
namespace Go.Proofs.YtplefbcgpbdkfaaDoor
open Go Go.Fx
-- ENV: KN
abbrev tpOp8 : Tp := .p (.i .i64) (.p (.i .i64) (.p (.i .u64) (.p (.i .u64) (.p (.i .u64) .bo))))
def conAlarmPlays : Con := lawTA KN [.i .i64, .i .u64, .sl tpOp8, .i .i64] [1, 3]
def conAlarmBeats : Con := lawTA KN [.i .u64, .i .u64, .i .u64, .sl (.i .u64)] [1, 3]
def conAlarmOrders : Con := lawTA KN [.sl (.i .u64), .sl (.i .i64)] [1, 3]
def conAlarmStops : Con := lawTA KN [.i .u64, .i .u64, .i .u64, .i .i64] [1, 3]
def conAlarmApart : Con := lawTA KN [.i .u64, .i .u64, .i .u64, .sl tpOp8, .sl (.i .u64)] [1, 3]
end Go.Proofs.YtplefbcgpbdkfaaDoor
/- Package nightjarlaw08: what the laws' books do, in plain words. -/
namespace Go.Proofs.YtplefbcgpbdkfaaDoor
open Go Go.Fx
theorem andI_le {x : Int} (m : Nat) (hm : m < 9223372036854775808) : 0 ≤ litArith .and .i64 x (m : Int) ∧ litArith .and .i64 x (m : Int) ≤ m := by
  show 0 ≤ IntKind.wrap .i64 ((BitVec.ofInt 64 x &&& BitVec.ofInt 64 (m : Int)).toNat : Int) ∧ IntKind.wrap .i64 ((BitVec.ofInt 64 x &&& BitVec.ofInt 64 (m : Int)).toNat : Int) ≤ m
  have h : (BitVec.ofInt 64 x &&& BitVec.ofInt 64 (m : Int)).toNat ≤ m := by
    rw [BitVec.toNat_and]
    refine Nat.le_trans Nat.and_le_right ?_
    rw [BitVec.ofInt_natCast, BitVec.toNat_ofNat]
    exact Nat.mod_le _ _
  rw [wrapI_ (by omega) (by omega)]
  omega
theorem NextP.uniq {q : Int → Bool} {n o o' : Int} {b b' : Bool} (h : NextP q 0 n o b) (h' : NextP q 0 n o' b') : o = o' ∧ b = b' := by
  rcases h with ⟨rfl, h0, h1, h2, h3⟩ | ⟨rfl, ho, h3⟩
  · exact ⟨((h'.found (j := o) (by omega) h1 h2 (fun i i0 i1 => h3 i (by omega) i1)).1).symm, ((h'.found (j := o) (by omega) h1 h2 (fun i i0 i1 => h3 i (by omega) i1)).2).symm⟩
  · have := h'.none (fun i i0 i1 => h3 i (by omega) i1)
    exact ⟨by rw [ho, this.1], this.2.symm⟩
theorem UpA.refl {e : Pt} {l : Ar} (h : hasA e l = true) : UpA e (bkA e l) l l := ⟨h, rfl, fun _ _ => ⟨rfl, rfl⟩⟩
/-- Asked twice whether a book is the document's. -/
theorem playsTail {e : Pt} {x' : Bo} {l l1 : Ar} {D1 : Ar → Prop} {D2 Q : Ar → Ar → Prop} (h : UpA e x' l l1) (hx : x'.1.length ≤ 4096) (hQ : ∀ l2 l3, UpA e x' l l3 → Q l2 l3) :
    (hasA e l1 = true ∧ bkA e l1 = x' ∧ x'.1.length ≤ 4096) ∧ ∀ l2, UpA e x' l1 l2 → (((!true) = true) → D1 l2) ∧ (((!true) = false) → (hasA e l2 = true ∧ bkA e l2 = x' ∧ x'.1.length ≤ 4096) ∧ ∀ l3, UpA e x' l2 l3 → (((!true) = true) → D2 l2 l3) ∧ (((!true) = false) → Q l2 l3)) :=
  ⟨⟨h.has, h.is, hx⟩, fun l2 h2 => ⟨fun q => absurd q (by decide), fun _ => ⟨⟨h2.has, h2.is, hx⟩, fun l3 h3 => ⟨fun q => absurd q (by decide), fun _ => hQ l2 l3 ((h.trans h2).trans h3)⟩⟩⟩⟩

/-! ### How many are told -/
/-- Is a timer due? -/
def dueq (to : Int) (t : Tm) : Bool := decide (t.2.1 = 1) && decide (t.2.2.2.1 ≤ to)
theorem dueq_mk (to : Int) (t : Tm) : ((mkT t).1 && decide ((mkT t).2.1 ≤ to)) = dueq to t := by
  unfold mkT dueq
  split
  · rename_i c; simp [c]
  · rename_i c; simp [c]
theorem dueN_count {l : List Mk} {now : Int} : ∀ n : Nat, n ≤ l.length → (dueN l now n).length = ((l.take n).filter fun m => m.1 && decide (m.2.1 ≤ now)).length
  | 0, _ => by simp [dueN]
  | n + 1, h => by
    obtain ⟨h', e⟩ := ix_lt (l := l) (k := (n : Int)) (by omega) (by omega)
    have e' : ix l (n : Int) = l[n] := by rw [e]; simp
    rw [dueN_succ, List.length_append, dueN_count n (by omega), List.take_add_one, List.getElem?_eq_getElem (by omega), List.filter_append, List.length_append]
    congr 1
    unfold dueB
    rw [e']
    simp only [Option.toList_some, List.filter_cons, List.filter_nil]
    split <;> rfl
theorem outR_count {b : Bo} {to : Int} (ht : b.2.2 ≤ to) : (outR (whB b) to).length = (b.1.filter (dueq to)).length := by
  have e : nowR (whB b) to = to := by unfold nowR; show (if b.2.2 < to then to else b.2.2) = to; split <;> omega
  rw [outR_length, e, dueN_count _ (Nat.le_refl _), List.take_length]
  show ((b.1.map mkT).filter _).length = _
  rw [List.filter_map, List.length_map]
  congr 2
  funext t
  exact dueq_mk to t
theorem outR_in {b : Bo} {to k : Int} (ht : b.2.2 ≤ to) : k ∈ outR (whB b) to ↔ 0 ≤ k ∧ k < b.1.length ∧ dueq to (ix b.1 k) = true := by
  have e : nowR (whB b) to = to := by unfold nowR; show (if b.2.2 < to then to else b.2.2) = to; split <;> omega
  have hl : ((whB b).1.length : Int) = b.1.length := by simp [whB]
  rw [outR_mem, e, hl]
  constructor
  · rintro ⟨h0, h1, h2⟩
    refine ⟨h0, h1, ?_⟩
    rw [← dueq_mk, ← ix_mks h0 h1]
    exact h2
  · rintro ⟨h0, h1, h2⟩
    refine ⟨h0, h1, ?_⟩
    rw [← dueq_mk, ← ix_mks h0 h1] at h2
    exact h2
theorem toB_eq {b : Bo} {to : Int} (ht : b.2.2 ≤ to) : toB b to = (b.1.map fun t => if dueq to t then dueT t else t, b.2.1, to) := by
  have e : nowR (whB b) to = to := by unfold nowR; show (if b.2.2 < to then to else b.2.2) = to; split <;> omega
  unfold toB
  rw [e]
  refine Prod.ext ?_ rfl
  simp only [dueq_mk]

/-! ### One timer -/
section
variable {h a p tn turn nw to n : Int}
theorem nowR_ge {w : Wh} (ht : w.2 ≤ to) : nowR w to = to := by unfold nowR; split <;> omega
theorem outR_one (ht : nw ≤ to) : outR (whB ([(true, 1, h, a, p, tn)], turn, nw)) to = if a ≤ to then [0] else [] := by
  have e : nowR (whB ([(true, 1, h, a, p, tn)], turn, nw)) to = to := nowR_ge ht
  refine outR_eq (fun k => ?_) ?_
  · rw [e]
    have hd : dueB (whB ([(true, 1, h, a, p, tn)], turn, nw)).1 to 0 = decide (a ≤ to) := rfl
    constructor
    · intro hk
      split at hk
      · rename_i c
        simp only [List.mem_cons, List.not_mem_nil, or_false] at hk
        subst hk
        exact ⟨Int.le_refl _, Int.lt_of_lt_of_le (by decide : (0 : Int) < 1) (Int.le_refl 1), by rw [hd]; simpa using c⟩
      · cases hk
    · rintro ⟨k0, k1, hq⟩
      have k1 : k < 1 := k1
      obtain rfl : k = 0 := by omega
      rw [hd] at hq
      rw [if_pos (by simpa using hq)]
      simp
  · split <;> simp
theorem toB_one (ht : nw ≤ to) : toB ([(true, 1, h, a, p, tn)], turn, nw) to = ([(true, if a ≤ to then 2 else 1, h, a, p, tn)], turn, to) := by
  have e : nowR (whB ([(true, 1, h, a, p, tn)], turn, nw)) to = to := nowR_ge ht
  unfold toB
  rw [e]
  show ([if true && decide (a ≤ to) then dueT (true, 1, h, a, p, tn) else (true, 1, h, a, p, tn)], turn, to) = _
  by_cases c : a ≤ to
  · rw [if_pos (by simpa using c), if_pos c]; rfl
  · rw [if_neg (by simpa using c), if_neg c]
/-- How many times are over. -/
def overs (A P t : Int) : Int := if A ≤ t then (t - A) / P + 1 else 0
theorem overs_gt {A P t sum : Int} (hP : 0 < P) (hs : 0 ≤ sum) : sum < overs A P t ↔ A + sum * P ≤ t := by
  unfold overs
  split
  · rw [Int.lt_add_one_iff, Int.le_ediv_iff_mul_le hP]; omega
  · have := Int.mul_nonneg hs (Int.le_of_lt hP)
    constructor <;> intro <;> omega
theorem overs_eq {A P t sum : Int} (hP : 0 < P) (hs : 0 ≤ sum) (h : ¬ A + sum * P ≤ t) (hj : sum = 0 ∨ A + (sum - 1) * P ≤ t) : overs A P t = sum := by
  have h1 : ¬ sum < overs A P t := fun c => h ((overs_gt hP hs).1 c)
  have h0 : 0 ≤ overs A P t := by
    unfold overs
    split
    · have := Int.ediv_nonneg (a := t - A) (b := P) (by omega) (Int.le_of_lt hP); omega
    · exact Int.le_refl _
  rcases hj with rfl | hj
  · omega
  · by_cases c : sum = 0
    · omega
    · have := (overs_gt (A := A) (t := t) hP (show 0 ≤ sum - 1 by omega)).2 hj
      omega
theorem many_over {A P t sum : Int} (hP : 0 < P) (hs : 0 ≤ sum) (ht : 0 ≤ t) (h : A + sum * P ≤ t) : sum + manyC (A + sum * P) P t = overs A P t := by
  have hn := Int.mul_nonneg hs (Int.le_of_lt hP)
  rw [many_eq ht]
  unfold minusC overs
  rw [if_neg (by omega), if_pos (by omega), show t - (A + sum * P) = t - A + -sum * P from by rw [Int.neg_mul]; omega, Int.add_mul_ediv_right _ _ (by omega)]
  omega
theorem overs_le {A P t : Int} (hP : 0 < P) (h : A ≤ t) : A + (overs A P t - 1) * P ≤ t ∧ t < A + overs A P t * P := by
  unfold overs
  rw [if_pos h]
  have h1 := Int.ediv_mul_le (t - A) (show P ≠ 0 by omega)
  have h2 := Int.lt_ediv_add_one_mul_self (t - A) hP
  constructor
  · rw [Int.add_sub_cancel]; omega
  · omega
theorem sent_one {v : Int} (hp : p ≠ 0) (hv : a + v * p < 18446744073709551616) (hv2 : v < 18446744073709551616) (hm : manyC a p n = v) : sentB ([(true, 2, h, a, p, tn)], turn, nw) 0 n = (([(true, 1, h, a + v * p, p, turn + 1)], turn + 1, nw), v) := by
  have e : nextC a p n = (a + v * p, v, true) := by rw [next_yes hp (by rw [hm]; exact ⟨hv, hv2⟩), hm]
  show (if (nextC a p n).2.2 = true then (armB ([(true, 2, h, a, p, tn)], turn, nw) 0 h (nextC a p n).1 p, (nextC a p n).2.1) else (withB ([(true, 2, h, a, p, tn)], turn, nw) 0 idle, 1)) = _
  rw [e]
  rfl
theorem look_one {s : Int} : lookB ([(true, s, h, a, p, tn)], turn, nw) 0 = (s, h, a, p) := rfl
end
end Go.Proofs.YtplefbcgpbdkfaaDoor
