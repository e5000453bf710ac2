/- Package nightjarlaw08: AlarmOrders, in plain words. -/
import Derived.Test.YtplefbcgpbdkfaaDoorZ5
import Derived.Test.YtplefbcgpbdkfaaDoorRows
import Derived.Test.YtplefbcgpbdkfaaDoorTie
import Derived.Test.YtplefbcgpbdkfaaDoorCards
import Derived.Test.YtplefbcgpbdkfaaDoorFt
import Derived.LaidMore
import Derived.Lib.LaidTab
import Derived.MakeChecks
import Derived.SevenTiedAt
set_option linter.all false
namespace Go.Proofs.YtplefbcgpbdkfaaDoor
open Go Go.Fx
/-- The first timers are set, each with a turn of its own. -/
structure OrdS (gaps : List Int) (b : Bo) (n turn : Int) (T : List Int) : Prop where
  len : b.1.length = 31
  tn : b.2 = (turn, 0)
  tb : 0 ≤ turn
  on : ∀ i : Int, 0 ≤ i → i < n → ∃ h, ix b.1 i = (true, 1, h, ix gaps i % 64, 0, ix T i)
  off : ∀ i : Int, n ≤ i → i < 31 → ix b.1 i = noTm
  lT : T.length = gaps.length
  le : ∀ i : Int, 0 ≤ i → i < n → ix T i ≤ turn
  inj : ∀ i j : Int, 0 ≤ i → i < n → 0 ≤ j → j < n → ix T i = ix T j → i = j
  n0 : 0 ≤ n ∧ n ≤ 31
section
variable {gaps T : List Int} {b b0 : Bo} {n turn k : Int}
theorem OrdS.new : OrdS gaps (newB 31 0) 0 0 (List.replicate gaps.length 0) :=
  ⟨by simp [newB], rfl, Int.le_refl _, fun i i0 i1 => by omega, fun i i0 i1 => ix_rep i0 i1, by simp, fun i i0 i1 => by omega, fun i j i0 i1 => by omega, by decide⟩
theorem OrdS.free (h : OrdS gaps b n turn T) (hn : n < 31) {o : Int} {ok : Bool} (hq : NextP (fun i => !(ix b.1 i).1) 0 b.1.length o ok) : o = n ∧ ok = true := by
  refine hq.found h.n0.1 (by rw [h.len]; exact hn) ?_ ?_
  · rw [h.off n (Int.le_refl _) hn]; rfl
  · intro i i0 i1
    obtain ⟨x, e⟩ := h.on i i0 i1
    rw [e]; rfl
theorem OrdS.arm {hd m : Int} (h : OrdS gaps b0 n turn T) (hl : b.1.length = 31) (hb : b.2 = b0.2) (he : ∀ i : Int, 0 ≤ i → i < 31 → i ≠ k → ix b.1 i = ix b0.1 i) (k0 : 0 ≤ k) (k1 : k < gaps.length) (hk : isB b k = true) (hm : (k < n ∧ m = n) ∨ (k = n ∧ m = n + 1 ∧ n < 31)) :
    OrdS gaps (armB b k hd (ix gaps k % 64) 0) m (turn + 1) (T.set k.toNat (turn + 1)) := by
  obtain ⟨_, k2, _⟩ := isB_iff.1 hk
  have hn := h.n0
  have e2 : b.2 = (turn, 0) := hb.trans h.tn
  have ea : armB b k hd (ix gaps k % 64) 0 = (b.1.set k.toNat (true, 1, hd, ix gaps k % 64, 0, turn + 1), turn + 1, 0) := by
    unfold armB; rw [if_pos hk, e2]
  rw [ea]
  have hT : ∀ i : Int, 0 ≤ i → ix (T.set k.toNat (turn + 1)) i = if k = i then turn + 1 else ix T i := fun i i0 => ix_set k0 (by rw [h.lT]; exact k1) i0
  have hB : ∀ i : Int, 0 ≤ i → ix (b.1.set k.toNat (true, 1, hd, ix gaps k % 64, 0, turn + 1)) i = if k = i then (true, 1, hd, ix gaps k % 64, 0, turn + 1) else ix b.1 i := fun i i0 => ix_set k0 k2 i0
  have hlt : ∀ i : Int, i < m → i ≠ k → i < n := fun i i1 i2 => by omega
  refine ⟨by simpa using hl, rfl, by have := h.tb; omega, fun i i0 i1 => ?_, fun i i0 i1 => ?_, by simpa using h.lT, fun i i0 i1 => ?_, fun i j i0 i1 j0 j1 => ?_, by omega⟩
  · simp only
    rw [hB i i0, hT i i0]
    by_cases e : k = i
    · subst e; rw [if_pos rfl, if_pos rfl]; exact ⟨hd, rfl⟩
    · rw [if_neg e, if_neg e, he i i0 (by omega) (Ne.symm e)]; exact h.on i i0 (hlt i i1 (Ne.symm e))
  · simp only
    rw [hB i (by omega), if_neg (by omega), he i (by omega) i1 (by omega)]
    exact h.off i (by omega) i1
  · rw [hT i i0]
    split
    · exact Int.le_refl _
    · rename_i e; have := h.le i i0 (hlt i i1 (Ne.symm e)); omega
  · rw [hT i i0, hT j j0]
    intro q
    by_cases e1 : k = i
    · by_cases e2 : k = j
      · omega
      · rw [if_pos e1, if_neg e2] at q
        have := h.le j j0 (hlt j j1 (Ne.symm e2)); omega
    · by_cases e2 : k = j
      · rw [if_neg e1, if_pos e2] at q
        have := h.le i i0 (hlt i i1 (Ne.symm e1)); omega
      · rw [if_neg e1, if_neg e2] at q
        exact h.inj i j i0 (hlt i i1 (Ne.symm e1)) j0 (hlt j j1 (Ne.symm e2)) q
theorem OrdS.make {hd : Int} (h : OrdS gaps b n turn T) (hn : n < 31) (hg : n < gaps.length) : OrdS gaps (armB (makeB b n true) n hd (ix gaps n % 64) 0) (n + 1) (turn + 1) (T.set n.toNat (turn + 1)) := by
  have n0 := h.n0
  have hB : ∀ i : Int, 0 ≤ i → ix (b.1.set n.toNat idle) i = if n = i then idle else ix b.1 i := fun i i0 => ix_set n0.1 (by rw [h.len]; omega) i0
  refine h.arm (b := makeB b n true) (k := n) (by simpa [makeB, withB] using h.len) rfl (fun i i0 i1 ne => ?_) n0.1 hg ?_ (.inr ⟨rfl, rfl, hn⟩)
  · show ix (b.1.set n.toNat idle) i = _
    rw [hB i i0, if_neg (Ne.symm ne)]
  · refine isB_iff.2 ⟨n0.1, ?_, ?_⟩
    · show n < ((b.1.set n.toNat idle).length : Int)
      rw [List.length_set, h.len]; exact hn
    · show (ix (b.1.set n.toNat idle) n).1 = true
      rw [hB n n0.1, if_pos rfl]
theorem OrdS.is (h : OrdS gaps b n turn T) (k0 : 0 ≤ k) (k1 : k < n) : isB b k = true := by
  have n0 := h.n0
  obtain ⟨x, e⟩ := h.on k k0 k1
  exact isB_iff.2 ⟨k0, by rw [h.len]; omega, by rw [e]⟩
theorem OrdS.again {hd : Int} (h : OrdS gaps b n turn T) (k0 : 0 ≤ k) (k1 : k < n) (hg : k < gaps.length) : OrdS gaps (armB b k hd (ix gaps k % 64) 0) n (turn + 1) (T.set k.toNat (turn + 1)) :=
  h.arm h.len rfl (fun i _ _ _ => rfl) k0 hg (h.is k0 k1) (.inl ⟨k1, rfl⟩)
theorem OrdS.due (h : OrdS gaps b n turn T) {i : Int} (i0 : 0 ≤ i) (i1 : i < 31) : dueq 64 (ix b.1 i) = decide (i < n) ∧ (ix b.1 i).1 = decide (i < n) ∧ (¬ i < n → (ix b.1 i).2.1 = 0) := by
  by_cases c : i < n
  · obtain ⟨x, e⟩ := h.on i i0 c
    rw [e]
    refine ⟨?_, by simp [c], fun q => absurd c q⟩
    unfold dueq
    simp [c]; omega
  · rw [h.off i (by omega) i1]
    simp [c, dueq]
theorem OrdS.mem (h : OrdS gaps b n turn T) {k : Int} : k ∈ outR (whB b) 64 ↔ 0 ≤ k ∧ k < n := by
  have n0 := h.n0
  rw [outR_in (by rw [h.tn]; exact Int.le_of_lt (by decide : (0 : Int) < 64)), h.len]
  constructor
  · rintro ⟨h0, h1, h2⟩
    rw [(h.due h0 h1).1] at h2
    exact ⟨h0, by simpa using h2⟩
  · rintro ⟨h0, h1⟩
    refine ⟨h0, by omega, ?_⟩
    rw [(h.due h0 (by omega)).1]
    simpa using h1
theorem len_range {o : List Int} {n : Nat} (hn : o.Nodup) (hm : ∀ k : Int, k ∈ o ↔ 0 ≤ k ∧ k < n) : o.length = n := by
  have h2 : ((List.range n).map fun i : Nat => (i : Int)).Nodup := by
    show List.Pairwise (· ≠ ·) _
    rw [List.pairwise_map]
    exact (List.nodup_range (n := n)).imp fun h e => h (by omega)
  have := (List.perm_ext_iff_of_nodup hn h2).2 fun k => by
    rw [hm, List.mem_map]
    constructor
    · rintro ⟨h0, h1⟩; exact ⟨k.toNat, by rw [List.mem_range]; omega, by omega⟩
    · rintro ⟨i, hi, rfl⟩; rw [List.mem_range] at hi; omega
  rw [this.length_eq]
  simp
theorem OrdS.told (h : OrdS gaps b n turn T) : ((outR (whB b) 64).length : Int) = n := by
  have n0 := h.n0
  have := len_range (n := n.toNat) outR_nodup (fun k => by rw [h.mem]; omega)
  omega
theorem OrdS.pair (h : OrdS gaps b n turn T) {i : Int} (i0 : 1 ≤ i) (i1 : i < (outR (whB b) 64).length) :
    let x := ix (outR (whB b) 64) (i - 1); let y := ix (outR (whB b) 64) i
    (0 ≤ x ∧ x < n) ∧ (0 ≤ y ∧ y < n) ∧ (ix gaps x % 64 < ix gaps y % 64 ∨ ix gaps x % 64 = ix gaps y % 64 ∧ ix T x < ix T y) := by
  have n0 := h.n0
  intro x y
  have hx := h.mem.1 (ix_mem (l := outR (whB b) 64) (k := i - 1) (by omega) (by omega))
  have hy := h.mem.1 (ix_mem (l := outR (whB b) 64) (k := i) (by omega) i1)
  refine ⟨hx, hy, ?_⟩
  obtain ⟨hx', ex⟩ := ix_lt (l := outR (whB b) 64) (k := i - 1) (by omega) (by omega)
  obtain ⟨hy', ey⟩ := ix_lt (l := outR (whB b) 64) (k := i) (by omega) i1
  have hp := List.pairwise_iff_getElem.1 (outR_pair (w := whB b) (to := 64)) (i - 1).toNat i.toNat hx' hy' (by omega)
  rw [← ex, ← ey] at hp
  have hp : ltM (mkAt (whB b).1) x y := hp
  obtain ⟨p, e1⟩ := h.on x hx.1 hx.2
  obtain ⟨q, e2⟩ := h.on y hy.1 hy.2
  have m1 : mkAt (whB b).1 x = (ix gaps x % 64, ix T x) := by
    show (ix (mks b.1) x).2 = _
    rw [ix_mks hx.1 (by rw [h.len]; omega), e1]; rfl
  have m2 : mkAt (whB b).1 y = (ix gaps y % 64, ix T y) := by
    show (ix (mks b.1) y).2 = _
    rw [ix_mks hy.1 (by rw [h.len]; omega), e2]; rfl
  unfold ltM at hp
  rw [m1, m2] at hp
  rcases hp with hp | ⟨hp, hp' | ⟨hp', hlt⟩⟩
  · exact .inl hp
  · exact .inr ⟨hp, hp'⟩
  · have := h.inj x y hx.1 hx.2 hy.1 hy.2 hp'
    omega
theorem OrdS.left (h : OrdS gaps b n turn T) : (cntB (toB b 64).1).2 = 0 ∧ (cntB (toB b 64).1).1 = n := by
  have ht : b.2.2 ≤ 64 := by rw [h.tn]; exact Int.le_of_lt (by decide : (0 : Int) < 64)
  have hall : ∀ t ∈ b.1, dueq 64 t = t.1 ∧ (t.1 = false → t.2.1 = 0) := fun t hm => by
    obtain ⟨i, hi, rfl⟩ := List.mem_iff_getElem.1 hm
    have hl := h.len
    obtain ⟨_, e⟩ := ix_lt (l := b.1) (k := (i : Int)) (by omega) (by omega)
    have hd := h.due (i := (i : Int)) (by omega) (by omega)
    have e' : ix b.1 (i : Int) = b.1[i] := by rw [e]; simp
    rw [e'] at hd
    refine ⟨hd.1.trans hd.2.1.symm, fun q => hd.2.2 ?_⟩
    rw [hd.2.1] at q
    simpa using q
  rw [toB_eq ht]
  unfold cntB
  simp only
  constructor
  · rw [List.filter_eq_nil_iff.2, List.length_nil]; rfl
    intro t hm
    obtain ⟨u, hu, rfl⟩ := List.mem_map.1 hm
    obtain ⟨h1, h2⟩ := hall u hu
    split
    · simp [dueT]
    · rename_i c
      rw [h2 (by rw [← h1]; simpa using c)]
      decide
  · have e : ((b.1.map fun t => if dueq 64 t = true then dueT t else t).filter (·.1)).length = (b.1.filter (dueq 64)).length := by
      rw [List.filter_map, List.length_map]
      congr 1
      refine List.filter_congr fun t hm => ?_
      simp only [Function.comp_apply]
      rw [(hall t hm).1]
      split <;> rfl
    rw [e, ← outR_count ht, h.told]
end
end Go.Proofs.YtplefbcgpbdkfaaDoor
/- Package nightjarlaw08: AlarmOrders holds. -/
namespace Go.Proofs.YtplefbcgpbdkfaaDoor
open Go Go.Fx
-- ENV: KN

set_option maxRecDepth 10000 in
theorem alarmOrders_vc :
  ∀ x0 : List Int,
 ∀ x1 : List Int,
 ∀ x2 : ArG,
 ∀ x3 : Ar,
 (((((True) ∧
 (Fits (Tp.sl (Tp.i IntKind.u64)) x0)) ∧
 (Fits (Tp.sl (Tp.i IntKind.i64)) x1)) ∧
 (IsZ (Tp.sl (Tp.p Tp.pt (Tp.sl (Tp.p Tp.bo (Tp.p (Tp.i IntKind.i64) (Tp.p (Tp.i IntKind.u64) (Tp.p (Tp.i IntKind.u64) (Tp.i IntKind.u64)))))))) x2)) ∧
 (IsZ (Tp.sl (Tp.p Tp.pt (Tp.p (Tp.sl (Tp.p Tp.bo (Tp.p (Tp.i IntKind.i64) (Tp.p (Tp.i IntKind.u64) (Tp.p (Tp.i IntKind.u64) (Tp.p (Tp.i IntKind.u64) (Tp.i IntKind.i64))))))) (Tp.p (Tp.i IntKind.i64) (Tp.i IntKind.u64))))) x3)) →
 (True) ∧
 (∀ x4 : ArG,
 ∀ x5 : Ar,
 True →
 (((!true) = true) →
 ∃ x6 : ArG,
 ∃ x7 : Ar,
 (True) ∧
 (False)) ∧
 (((!true) = false) →
 ((litCmp BinOp.gtr (↑(List.length x0) : Int) (31 : Int) = true) →
 ∃ x8 : ArG,
 ∃ x9 : Ar,
 (True) ∧
 ((x4 = x8) ∧
 ((x5 = x9) ∧
 (True)))) ∧
 ((litCmp BinOp.gtr (↑(List.length x0) : Int) (31 : Int) = false) →
 ((litCmp BinOp.gtr (↑(List.length x1) : Int) (31 : Int) = true) →
 ∃ x10 : ArG,
 ∃ x11 : Ar,
 (True) ∧
 ((x4 = x10) ∧
 ((x5 = x11) ∧
 (True)))) ∧
 ((litCmp BinOp.gtr (↑(List.length x1) : Int) (31 : Int) = false) →
 (u64ok (0 : Int)) ∧
 (∀ x12 : (Int × Int),
 ∀ x13 : ArG,
 ∀ x14 : Ar,
 ((((0 : Int) ≤ Prod.fst x12) ∧
 ((0 : Int) ≤ Prod.snd x12)) ∧
 ((freshA x5 x12) ∧
 (UpA x12 (newB (31 : Nat) (0 : Int)) x5 x14))) →
 (((0 : Int) ≤ (↑(List.length x0) : Int)) ∧
 ((↑(List.length x0) : Int) * (8 : Int) ≤ (140737488355328 : Int))) ∧
 (∃ x15 : Int → Int → List Int → Ar → Prop,
 ∃ x16 : Int → Int → List Int → Ar → Nat,
 (x15 (0 : Int) (0 : Int) (List.replicate (Int.toNat (↑(List.length x0) : Int)) (0 : Int)) x14) ∧
 (∀ x17 : Int,
 ∀ x18 : Int,
 ∀ x19 : List Int,
 ∀ x20 : Ar,
 (x15 x17 x18 x19 x20) →
 ((litCmp BinOp.lss x17 (↑(List.length x0) : Int) = true) →
 (((0 : Int) ≤ x17) ∧
 (x17 < (↑(List.length x0) : Int))) ∧
 (∀ x21 : Int,
 (x21 = ix x0 x17) →
 (hasA x12 x20 = true) ∧
 (∀ x22 : Int,
 ∀ x23 : Bool,
 ∀ x24 : Ar,
 ((NextP (fun (i : Int) => !Prod.fst (ix (Prod.fst (bkA x12 x20)) i)) (0 : Int) (↑(List.length (Prod.fst (bkA x12 x20))) : Int) x22 x23) ∧
 (UpA x12 (makeB (bkA x12 x20) x22 x23) x20 x24)) →
 (((!x23) = true) →
 ∃ x25 : ArG,
 ∃ x26 : Ar,
 (True) ∧
 (False)) ∧
 (((!x23) = false) →
 ((litCmp BinOp.neq x22 x17 = true) →
 ∃ x27 : ArG,
 ∃ x28 : Ar,
 (True) ∧
 (False)) ∧
 ((litCmp BinOp.neq x22 x17 = false) →
 ∀ x29 : Int,
 (x29 = litArith BinOp.add IntKind.i64 x18 (1 : Int)) →
 (((0 : Int) ≤ x17) ∧
 (x17 < (↑(List.length x19) : Int))) ∧
 (∀ x30 : List Int,
 (x30 = List.set x19 (Int.toNat x17) x29) →
 ∀ x31 : Int,
 (x31 = litArith BinOp.and IntKind.u64 x21 (63 : Int)) →
 ((hasA x12 x24 = true) ∧
 ((u64ok (1 : Int)) ∧
 ((u64ok x31) ∧
 ((u64ok (0 : Int)) ∧
 (okTurn (bkA x12 x24)))))) ∧
 (∀ x32 : Ar,
 (UpA x12 (armB (bkA x12 x24) x17 (1 : Int) x31 (0 : Int)) x24 x32) →
 ∀ x33 : Int,
 (x33 = litArith BinOp.add IntKind.i64 x17 (1 : Int)) →
 (x0 = x0) ∧
 (((↑(List.length x0) : Int) = (↑(List.length x0) : Int)) ∧
 ((x1 = x1) ∧
 (((↑(List.length x1) : Int) = (↑(List.length x1) : Int)) ∧
 ((x12 = x12) ∧
 ((x0 = x0) ∧
 (((↑(List.length x0) : Int) = (↑(List.length x0) : Int)) ∧
 (((↑(List.length x0) : Int) = (↑(List.length x0) : Int)) ∧
 ((x13 = x13) ∧
 ((x15 x33 x29 x30 x32) ∧
 (x16 x33 x29 x30 x32 < x16 x17 x18 x19 x20))))))))))))))))) ∧
 ((litCmp BinOp.lss x17 (↑(List.length x0) : Int) = false) →
 ∃ x34 : Int → Int → List Int → Ar → Prop,
 ∃ x35 : Int → Int → List Int → Ar → Nat,
 (x34 (0 : Int) x18 x19 x20) ∧
 (∀ x36 : Int,
 ∀ x37 : Int,
 ∀ x38 : List Int,
 ∀ x39 : Ar,
 (x34 x36 x37 x38 x39) →
 ((litCmp BinOp.lss x36 (↑(List.length x1) : Int) = true) →
 (((0 : Int) ≤ x36) ∧
 (x36 < (↑(List.length x1) : Int))) ∧
 (∀ x40 : Int,
 (x40 = ix x1 x36) →
 ((litCmp BinOp.geq x40 (0 : Int) = true) →
 ((litCmp BinOp.lss x40 (↑(List.length x0) : Int) = true) →
 ∀ x41 : Int,
 (x41 = litArith BinOp.add IntKind.i64 x37 (1 : Int)) →
 (((0 : Int) ≤ x40) ∧
 (x40 < (↑(List.length x38) : Int))) ∧
 (∀ x42 : List Int,
 (x42 = List.set x38 (Int.toNat x40) x41) →
 (((0 : Int) ≤ x40) ∧
 (x40 < (↑(List.length x0) : Int))) ∧
 (∀ x43 : Int,
 (x43 = ix x0 x40) →
 ∀ x44 : Int,
 (x44 = litArith BinOp.and IntKind.u64 x43 (63 : Int)) →
 ((hasA x12 x39 = true) ∧
 ((u64ok (2 : Int)) ∧
 ((u64ok x44) ∧
 ((u64ok (0 : Int)) ∧
 (okTurn (bkA x12 x39)))))) ∧
 (∀ x45 : Ar,
 (UpA x12 (armB (bkA x12 x39) x40 (2 : Int) x44 (0 : Int)) x39 x45) →
 ∀ x46 : Int,
 (x46 = litArith BinOp.add IntKind.i64 x36 (1 : Int)) →
 (x0 = x0) ∧
 (((↑(List.length x0) : Int) = (↑(List.length x0) : Int)) ∧
 ((x12 = x12) ∧
 ((x1 = x1) ∧
 (((↑(List.length x1) : Int) = (↑(List.length x1) : Int)) ∧
 (((↑(List.length x1) : Int) = (↑(List.length x1) : Int)) ∧
 ((x13 = x13) ∧
 ((x34 x46 x41 x42 x45) ∧
 (x35 x46 x41 x42 x45 < x35 x36 x37 x38 x39)))))))))))) ∧
 ((litCmp BinOp.lss x40 (↑(List.length x0) : Int) = false) →
 ∀ x47 : Int,
 (x47 = litArith BinOp.add IntKind.i64 x36 (1 : Int)) →
 (x0 = x0) ∧
 (((↑(List.length x0) : Int) = (↑(List.length x0) : Int)) ∧
 ((x12 = x12) ∧
 ((x1 = x1) ∧
 (((↑(List.length x1) : Int) = (↑(List.length x1) : Int)) ∧
 (((↑(List.length x1) : Int) = (↑(List.length x1) : Int)) ∧
 ((x13 = x13) ∧
 ((x34 x47 x37 x38 x39) ∧
 (x35 x47 x37 x38 x39 < x35 x36 x37 x38 x39)))))))))) ∧
 ((litCmp BinOp.geq x40 (0 : Int) = false) →
 ∀ x48 : Int,
 (x48 = litArith BinOp.add IntKind.i64 x36 (1 : Int)) →
 (x0 = x0) ∧
 (((↑(List.length x0) : Int) = (↑(List.length x0) : Int)) ∧
 ((x12 = x12) ∧
 ((x1 = x1) ∧
 (((↑(List.length x1) : Int) = (↑(List.length x1) : Int)) ∧
 (((↑(List.length x1) : Int) = (↑(List.length x1) : Int)) ∧
 ((x13 = x13) ∧
 ((x34 x48 x37 x38 x39) ∧
 (x35 x48 x37 x38 x39 < x35 x36 x37 x38 x39))))))))))) ∧
 ((litCmp BinOp.lss x36 (↑(List.length x1) : Int) = false) →
 ((hasA x12 x39 = true) ∧
 (u64ok (64 : Int))) ∧
 (∀ x49 : List Int,
 ∀ x50 : Ar,
 ((x49 = outR (whB (bkA x12 x39)) (64 : Int)) ∧
 (UpA x12 (toB (bkA x12 x39) (64 : Int)) x39 x50)) →
 ∃ x51 : Int → Prop,
 ∃ x52 : Int → Nat,
 (x51 (1 : Int)) ∧
 (∀ x53 : Int,
 (x51 x53) →
 ((litCmp BinOp.lss x53 (↑(List.length x49) : Int) = true) →
 (((0 : Int) ≤ x53) ∧
 (x53 < (↑(List.length x49) : Int))) ∧
 ((((0 : Int) ≤ litArith BinOp.sub IntKind.i64 x53 (1 : Int)) ∧
 (litArith BinOp.sub IntKind.i64 x53 (1 : Int) < (↑(List.length x49) : Int))) ∧
 (((litCmp BinOp.lss (ix x49 (litArith BinOp.sub IntKind.i64 x53 (1 : Int))) (0 : Int) = true) →
 ∃ x54 : ArG,
 ∃ x55 : Ar,
 (True) ∧
 (False)) ∧
 ((litCmp BinOp.lss (ix x49 (litArith BinOp.sub IntKind.i64 x53 (1 : Int))) (0 : Int) = false) →
 ((litCmp BinOp.lss (ix x49 x53) (0 : Int) = true) →
 ∃ x56 : ArG,
 ∃ x57 : Ar,
 (True) ∧
 (False)) ∧
 ((litCmp BinOp.lss (ix x49 x53) (0 : Int) = false) →
 ((litCmp BinOp.geq (ix x49 (litArith BinOp.sub IntKind.i64 x53 (1 : Int))) (↑(List.length x0) : Int) = true) →
 ∃ x58 : ArG,
 ∃ x59 : Ar,
 (True) ∧
 (False)) ∧
 ((litCmp BinOp.geq (ix x49 (litArith BinOp.sub IntKind.i64 x53 (1 : Int))) (↑(List.length x0) : Int) = false) →
 ((litCmp BinOp.geq (ix x49 x53) (↑(List.length x0) : Int) = true) →
 ∃ x60 : ArG,
 ∃ x61 : Ar,
 (True) ∧
 (False)) ∧
 ((litCmp BinOp.geq (ix x49 x53) (↑(List.length x0) : Int) = false) →
 (((0 : Int) ≤ ix x49 x53) ∧
 (ix x49 x53 < (↑(List.length x0) : Int))) ∧
 ((((0 : Int) ≤ ix x49 (litArith BinOp.sub IntKind.i64 x53 (1 : Int))) ∧
 (ix x49 (litArith BinOp.sub IntKind.i64 x53 (1 : Int)) < (↑(List.length x0) : Int))) ∧
 (((litCmp BinOp.gtr (litArith BinOp.and IntKind.u64 (ix x0 (ix x49 (litArith BinOp.sub IntKind.i64 x53 (1 : Int)))) (63 : Int)) (litArith BinOp.and IntKind.u64 (ix x0 (ix x49 x53)) (63 : Int)) = true) →
 ∃ x62 : ArG,
 ∃ x63 : Ar,
 (True) ∧
 (False)) ∧
 ((litCmp BinOp.gtr (litArith BinOp.and IntKind.u64 (ix x0 (ix x49 (litArith BinOp.sub IntKind.i64 x53 (1 : Int)))) (63 : Int)) (litArith BinOp.and IntKind.u64 (ix x0 (ix x49 x53)) (63 : Int)) = false) →
 (((0 : Int) ≤ ix x49 x53) ∧
 (ix x49 x53 < (↑(List.length x0) : Int))) ∧
 ((((0 : Int) ≤ ix x49 (litArith BinOp.sub IntKind.i64 x53 (1 : Int))) ∧
 (ix x49 (litArith BinOp.sub IntKind.i64 x53 (1 : Int)) < (↑(List.length x0) : Int))) ∧
 (((litCmp BinOp.eql (litArith BinOp.and IntKind.u64 (ix x0 (ix x49 (litArith BinOp.sub IntKind.i64 x53 (1 : Int)))) (63 : Int)) (litArith BinOp.and IntKind.u64 (ix x0 (ix x49 x53)) (63 : Int)) = true) →
 (((0 : Int) ≤ ix x49 x53) ∧
 (ix x49 x53 < (↑(List.length x38) : Int))) ∧
 ((((0 : Int) ≤ ix x49 (litArith BinOp.sub IntKind.i64 x53 (1 : Int))) ∧
 (ix x49 (litArith BinOp.sub IntKind.i64 x53 (1 : Int)) < (↑(List.length x38) : Int))) ∧
 (((litCmp BinOp.geq (ix x38 (ix x49 (litArith BinOp.sub IntKind.i64 x53 (1 : Int)))) (ix x38 (ix x49 x53)) = true) →
 ∃ x64 : ArG,
 ∃ x65 : Ar,
 (True) ∧
 (False)) ∧
 ((litCmp BinOp.geq (ix x38 (ix x49 (litArith BinOp.sub IntKind.i64 x53 (1 : Int)))) (ix x38 (ix x49 x53)) = false) →
 ∀ x66 : Int,
 (x66 = litArith BinOp.add IntKind.i64 x53 (1 : Int)) →
 (x0 = x0) ∧
 (((↑(List.length x0) : Int) = (↑(List.length x0) : Int)) ∧
 ((x12 = x12) ∧
 ((x38 = x38) ∧
 (((↑(List.length x38) : Int) = (↑(List.length x38) : Int)) ∧
 ((x49 = x49) ∧
 (((↑(List.length x49) : Int) = (↑(List.length x49) : Int)) ∧
 ((x13 = x13) ∧
 ((x50 = x50) ∧
 ((x51 x66) ∧
 (x52 x66 < x52 x53)))))))))))))) ∧
 ((litCmp BinOp.eql (litArith BinOp.and IntKind.u64 (ix x0 (ix x49 (litArith BinOp.sub IntKind.i64 x53 (1 : Int)))) (63 : Int)) (litArith BinOp.and IntKind.u64 (ix x0 (ix x49 x53)) (63 : Int)) = false) →
 ∀ x67 : Int,
 (x67 = litArith BinOp.add IntKind.i64 x53 (1 : Int)) →
 (x0 = x0) ∧
 (((↑(List.length x0) : Int) = (↑(List.length x0) : Int)) ∧
 ((x12 = x12) ∧
 ((x38 = x38) ∧
 (((↑(List.length x38) : Int) = (↑(List.length x38) : Int)) ∧
 ((x49 = x49) ∧
 (((↑(List.length x49) : Int) = (↑(List.length x49) : Int)) ∧
 ((x13 = x13) ∧
 ((x50 = x50) ∧
 ((x51 x67) ∧
 (x52 x67 < x52 x53))))))))))))))))))))))) ∧
 ((litCmp BinOp.lss x53 (↑(List.length x49) : Int) = false) →
 ((litCmp BinOp.eql (↑(List.length x49) : Int) (↑(List.length x0) : Int) = true) →
 (hasA x12 x50 = true) ∧
 (∀ x68 : Ar,
 (UpA x12 (bkA x12 x50) x50 x68) →
 ((litCmp BinOp.eql (Prod.snd (cntB (Prod.fst (bkA x12 x50)))) (0 : Int) = true) →
 (hasA x12 x68 = true) ∧
 (∀ x69 : Ar,
 (UpA x12 (bkA x12 x68) x68 x69) →
 ∃ x70 : ArG,
 ∃ x71 : Ar,
 (True) ∧
 ((litCmp BinOp.eql (Prod.fst (cntB (Prod.fst (bkA x12 x68)))) (↑(List.length x0) : Int) = true) ∧
 ((x13 = x70) ∧
 ((x69 = x71) ∧
 (True)))))) ∧
 ((litCmp BinOp.eql (Prod.snd (cntB (Prod.fst (bkA x12 x50)))) (0 : Int) = false) →
 ∃ x72 : ArG,
 ∃ x73 : Ar,
 (True) ∧
 (False)))) ∧
 ((litCmp BinOp.eql (↑(List.length x49) : Int) (↑(List.length x0) : Int) = false) →
 ∃ x74 : ArG,
 ∃ x75 : Ar,
 (True) ∧
                (False))))))))))))))) := by
  rintro gaps again g0 l0 ⟨⟨⟨⟨_, hg⟩, _⟩, _⟩, _⟩
  refine ⟨trivial, fun g1 l1 _ => ⟨fun q => absurd q (by decide), fun _ => ⟨fun _ => ⟨g1, l1, trivial, rfl, rfl, trivial⟩, fun h1 => ⟨fun _ => ⟨g1, l1, trivial, rfl, rfl, trivial⟩, fun h2 => ?_⟩⟩⟩⟩
  rw [gtrF] at h1 h2
  refine ⟨⟨by decide, by decide⟩, ?_⟩
  rintro e g2 l2 ⟨_, _, u⟩
  refine ⟨⟨Int.natCast_nonneg _, by omega⟩, ?_⟩
  refine ⟨fun k turn T l => 0 ≤ k ∧ k ≤ gaps.length ∧ turn = k ∧ hasA e l = true ∧ OrdS gaps (bkA e l) k turn T, fun k _ _ _ => ((gaps.length : Int) - k).toNat, ⟨Int.le_refl _, Int.natCast_nonneg _, rfl, u.has, by rw [u.is]; exact OrdS.new⟩, ?_⟩
  intro k turn T l hI
  obtain ⟨k0, k1, hkt, he, hs⟩ := hI
  refine ⟨fun hk => ?_, fun hk => ?_⟩
  · rw [lssT] at hk
    refine ⟨⟨k0, hk⟩, ?_⟩
    intro g hgx
    refine ⟨he, ?_⟩
    intro j ok l3 hj
    obtain ⟨hj, u3⟩ := hj
    obtain ⟨ej, eo⟩ := hs.free (by omega) hj
    subst j
    subst eo
    refine ⟨fun q => absurd q (by decide), fun _ => ⟨fun q => (by rw [neqT] at q; exact absurd rfl q), fun _ => ?_⟩⟩
    intro t' ht'
    rw [addI_ (by omega) (by omega)] at ht'
    refine ⟨⟨k0, by rw [hs.lT]; exact hk⟩, ?_⟩
    intro T' hT' a ha
    have hgu : u64ok g := by rw [hgx]; exact u64_ix hg k0 hk
    have ha' : a = ix gaps k % 64 := by rw [ha, and63_ hgu.1 hgu.2, hgx]
    have b3 := u3.is
    have hau : u64ok a := by rw [ha']; constructor <;> omega
    have hok : okTurn (makeB (bkA e l) k true) := by
      show 0 ≤ (bkA e l).2.1 ∧ (bkA e l).2.1 < 9223372036854775806
      rw [hs.tn]
      exact ⟨hs.tb, by simp only; omega⟩
    refine ⟨⟨u3.has, ⟨by decide, by decide⟩, hau, u0, by rw [b3]; exact hok⟩, ?_⟩
    intro l4 u4 z hz
    rw [addI_ (by omega) (by omega)] at hz
    rw [b3, ha'] at u4
    have hn := hs.make (hd := 1) (by omega) hk
    refine ⟨rfl, rfl, rfl, rfl, rfl, rfl, rfl, rfl, rfl, ⟨by omega, by omega, by omega, u4.has, ?_⟩, by rw [hz]; exact meas hk⟩
    rw [u4.is, hz, hT', ht']
    exact hn
  · rw [lssF] at hk
    have hkn : k = gaps.length := by omega
    refine ⟨fun i turn T l => 0 ≤ i ∧ i ≤ again.length ∧ turn ≤ 31 + i ∧ hasA e l = true ∧ OrdS gaps (bkA e l) gaps.length turn T, fun i _ _ _ => ((again.length : Int) - i).toNat, ⟨Int.le_refl _, Int.natCast_nonneg _, by omega, he, by rw [← hkn]; exact hs⟩, ?_⟩
    intro i turn2 T2 l3 hI
    obtain ⟨i0, i1, ht, he3, hs3⟩ := hI
    have tb3 := hs3.tb
    refine ⟨fun hi => ?_, fun hi => ?_⟩
    · rw [lssT] at hi
      refine ⟨⟨i0, hi⟩, ?_⟩
      intro x hx
      have hadd : litArith .add .i64 i 1 = i + 1 := addI_ (by omega) (by omega)
      have keep : ∀ z : Int, z = litArith .add .i64 i 1 → (0 ≤ z ∧ z ≤ again.length ∧ turn2 ≤ 31 + z ∧ hasA e l3 = true ∧ OrdS gaps (bkA e l3) gaps.length turn2 T2) ∧ ((again.length : Int) - z).toNat < ((again.length : Int) - i).toNat := by
        intro z hz
        rw [hz, hadd]
        exact ⟨⟨by omega, by omega, by omega, he3, hs3⟩, meas hi⟩
      refine ⟨fun c0 => ⟨fun c1 => ?_, fun _ z hz => ⟨rfl, rfl, rfl, rfl, rfl, rfl, rfl, keep z hz⟩⟩, fun _ z hz => ⟨rfl, rfl, rfl, rfl, rfl, rfl, rfl, keep z hz⟩⟩
      rw [geqT] at c0
      rw [lssT] at c1
      intro t' ht'
      rw [addI_ (by omega) (by omega)] at ht'
      refine ⟨⟨c0, by rw [hs3.lT]; exact c1⟩, ?_⟩
      intro T' hT'
      refine ⟨⟨c0, c1⟩, ?_⟩
      intro g hgx a ha
      have hgu : u64ok g := by rw [hgx]; exact u64_ix hg c0 c1
      have ha' : a = ix gaps x % 64 := by rw [ha, and63_ hgu.1 hgu.2, hgx]
      have hau : u64ok a := by rw [ha']; constructor <;> omega
      have hok : okTurn (bkA e l3) := by
        unfold okTurn
        rw [hs3.tn]
        exact ⟨hs3.tb, by simp only; omega⟩
      refine ⟨⟨he3, ⟨by decide, by decide⟩, hau, u0, hok⟩, ?_⟩
      intro l4 u4 z hz
      rw [ha'] at u4
      have hn := hs3.again (hd := 2) c0 c1 c1
      rw [hadd] at hz
      refine ⟨rfl, rfl, rfl, rfl, rfl, rfl, rfl, ⟨by omega, by omega, by omega, u4.has, ?_⟩, by rw [hz]; exact meas hi⟩
      rw [u4.is, hT', ht']
      exact hn
    · refine ⟨⟨he3, by decide, by decide⟩, ?_⟩
      intro o l4 ho
      obtain ⟨ho, u4⟩ := ho
      have hlen := hs3.told
      rw [← ho] at hlen
      refine ⟨fun i => 1 ≤ i, fun i => ((o.length : Int) - i).toNat, Int.le_refl _, ?_⟩
      intro i i0
      refine ⟨fun hi => ?_, fun _ => ?_⟩
      · rw [lssT] at hi
        have hsub : litArith .sub .i64 i 1 = i - 1 := subI_ (by omega) (by omega)
        have hadd : litArith .add .i64 i 1 = i + 1 := addI_ (by omega) (by omega)
        rw [hsub]
        have hp := hs3.pair i0 (by rw [← ho]; exact hi)
        rw [← ho] at hp
        simp only at hp
        obtain ⟨⟨x0, x1⟩, ⟨y0, y1⟩, hlt⟩ := hp
        have gx := u64_ix hg x0 x1
        have gy := u64_ix hg y0 y1
        have hl := hs3.lT
        generalize ix o (i - 1) = x at x0 x1 hlt gx ⊢
        generalize ix o i = y at y0 y1 hlt gy ⊢
        rw [and63_ gx.1 gx.2, and63_ gy.1 gy.2]
        have step : ∀ z : Int, z = litArith .add .i64 i 1 → 1 ≤ z ∧ ((o.length : Int) - z).toNat < ((o.length : Int) - i).toNat := by
          intro z hz
          rw [hz, hadd]
          exact ⟨by omega, meas hi⟩
        refine ⟨⟨by omega, hi⟩, ⟨by omega, by omega⟩, fun q => (by rw [lssT] at q; omega), fun _ => ⟨fun q => (by rw [lssT] at q; omega), fun _ => ⟨fun q => (by rw [geqT] at q; omega), fun _ => ⟨fun q => (by rw [geqT] at q; omega), fun _ => ⟨⟨y0, y1⟩, ⟨x0, x1⟩, fun q => (by rw [gtrT] at q; omega), fun _ => ⟨⟨y0, y1⟩, ⟨x0, x1⟩, fun q => ⟨⟨y0, by rw [hl]; exact y1⟩, ⟨x0, by rw [hl]; exact x1⟩, fun q2 => (by rw [eqlT] at q; rw [geqT] at q2; omega), fun _ z hz => ⟨rfl, rfl, rfl, rfl, rfl, rfl, rfl, rfl, rfl, step z hz⟩⟩, fun _ z hz => ⟨rfl, rfl, rfl, rfl, rfl, rfl, rfl, rfl, rfl, step z hz⟩⟩⟩⟩⟩⟩⟩
      · have left := hs3.left
        refine ⟨fun _ => ⟨u4.has, ?_⟩, fun q => (by rw [eqlF] at q; exact absurd hlen q)⟩
        intro l5 u5
        refine ⟨fun _ => ⟨u5.has, fun l6 u6 => ⟨g2, l6, trivial, ?_, rfl, rfl, trivial⟩⟩, fun q => ?_⟩
        · rw [eqlT, u5.is, u4.is, left.2]
        · rw [eqlF, u4.is, left.1] at q
          exact absurd rfl q
set_option maxRecDepth 10000 in
theorem alarmOrders_ok : conAlarmOrders.ok KN Tryd.prog 5 := by
  refine Con.of_vc ([(0, ⟨[], [(34, .d (.i .i64)), (7, .d (.i .i64))], [], [0], [1]⟩), (2, ⟨[], [(65, .d (.i .i64)), (7, .d (.i .i64))], [], [0], [1]⟩), (4, ⟨[], [(15, .d (.i .i64))], [], [], []⟩)]) ([]) ([]) TT_ok follows Tryd.func5 ?_ G109_ok (@toVC _ _ alarmOrders_vc ?_)
  · kernel_rfl
  · kernel_rfl
noncomputable def G110d : List (FuncId × Con) := (5, conAlarmOrders) :: G109
theorem G110d_ok : GOK KN Tryd.prog G110d := GOK.cons (Callable.of Tryd.func5 (by kernel_rfl) (by kernel_rfl)) alarmOrders_ok G109_ok
end Go.Proofs.YtplefbcgpbdkfaaDoor
/- The card of AlarmOrders: it answers yes to every input; the table of bits that is read is the program's own. -/
namespace Go.Proofs.YtplefbcgpbdkfaaDoor.alarmOrdersDone
open Go Go.ChangeShapes Go.WideShapes Go.ChangeAt Go.RowKit Go.Joins Go.Fx

theorem wantsNone {P : Program} {ps : Array TypeId} (h : (ps.toList.all fun t => !P.wantsStandIn t) = true) {j : Nat} {t : TypeId} (ht : ps[j]? = some t) : P.wantsStandIn t = false := by
  have := List.all_eq_true.1 h t (List.mem_of_getElem? (by simpa using ht))
  simpa using this
theorem own : ownKnob Tryd.prog.godebug = none := by kernel_rfl
theorem laidOut : laidOutB Tryd.prog = true := by kernel_rfl
theorem gTab : Tryd.prog.globalNamed "math/bits.deBruijn64tab" = some 0 := by kernel_rfl
theorem tTab : (Tryd.prog.globals[0]?).map (·.type) = some 144 := by kernel_rfl
theorem laidIs {W : World} (h : laidMetH Tryd.prog Rows.alarmOrdersRow.laid W) : Lib.TabIs Tryd.prog W "math/bits.deBruijn64tab" .u8 (Lib.deBruijn64tab.map fun n => ((n : Nat) : Int)) := by
  rw [MakeChecks.laidMetH_plain _ _ _ (by kernel_rfl)] at h
  exact Lib.tabIs_of_head (rest := []) (n := 64) (e := 5) gTab tTab (by kernel_rfl) (by kernel_rfl) (by kernel_rfl) (by kernel_rfl) h
theorem glAt {W : World} (h : laidMetH Tryd.prog Rows.alarmOrdersRow.laid W) : KN.at_ W := by
  intro p hp
  obtain ⟨j, hj, rfl⟩ := List.mem_map.1 (show p ∈ glB from hp)
  have hj := List.mem_range.1 hj
  have hc : W.cell? ⟨0, j, none⟩ = some (.int .u8 ((Lib.deBruijn64tab.getD j 0 : Nat) : Int)) := by
    have := (laidIs h).cell gTab j (by rw [List.length_map]; exact hj)
    rw [this]
    congr 2
    simp only [List.getD_eq_getElem?_getD, List.getElem?_map]
    cases Lib.deBruijn64tab[j]? <;> rfl
  refine ⟨?_, hc⟩
  unfold World.cell? at hc
  simp only [Option.isSome_none, Bool.false_eq_true, if_false] at hc
  by_cases c : 0 < W.heap.size
  · exact c
  · rw [Array.getElem?_eq_none (by omega)] at hc; cases hc
theorem door_met (os : Os) (args : Array Value) : laidMetH Tryd.prog Rows.alarmOrdersRow.laid ((World.doorLaid Tryd.prog 400 os).forCall (fun _ _ => 0) ⟨#[], args, []⟩).memory :=
  laidMetH_of_parts3 (fuel := 8) (laidMet_of_run' 8 (by kernel_rfl) (by kernel_rfl)) (by kernel_rfl) (by kernel_rfl)
set_option maxRecDepth 100000 in
theorem lifted (os : Os) (started : os.Started) (H : Type) (enc : TypeId × Value → H) :
    ReturnsInHanded {} Tryd.checked os 5 .any (fun w args => (Rows.alarmOrdersSpec.pre enc Tryd.prog Tryd.f5 Rows.alarmOrdersRow.domain false w args ∧ laidMetH Tryd.prog Rows.alarmOrdersRow.laid w) ∧ sizedMet enc Tryd.prog Tryd.f5 (OpenSpec.ofChange Rows.alarmOrdersSpec) false w args)
      (Rows.alarmOrdersSpec.post enc Tryd.prog Tryd.f5 false true false false) := by
  refine returnsInHanded_of_change_and (C := Tryd.checked) (X := fun w _ => laidMetH Tryd.prog Rows.alarmOrdersRow.laid w) (fun _ _ _ hh h => h.of_heap hh) own started (by kernel_rfl) Tryd.func5
    (ChangeSpec.witness_shaped (enc := enc) (C := Tryd.checked) (os := os) (X := fun w _ => laidMetH Tryd.prog Rows.alarmOrdersRow.laid w) false (World.doorLaid Tryd.prog 400 os) #[.slice none 0 0, .slice none 0 0] 8 rfl (World.shaped_of_RefB (by kernel_rfl) (by kernel_rfl)) (by kernel_rfl) (by kernel_rfl) (by kernel_rfl) (door_met os _)) ?_
  intro W base args ds gs before hval hW hcnd _ hL _
  have hW' := hW
  obtain ⟨p, q, hA, hV, rfl, hfz, hnd⟩ := hW
  obtain ⟨rfl, rfl⟩ := trodVars_none hV
  obtain ⟨us, h1, h2, h3⟩ := rowIn (d := 8) ([.sl (.i .u64), .sl (.i .i64)]) hA (by kernel_rfl) (fun j t v ht hv => hval j t v (by simpa using ht) (by simpa using hv))
  have hc := lawTA_walk (show (lawTA KN ([.sl (.i .u64), .sl (.i .i64)]) [1, 3]).ok KN Tryd.prog 5 from alarmOrders_ok) us h1 h2 W (glAt hL) _ h3
  rw [Array.toArray_toList] at hc
  have hA' := hA
  rw [Tryd.params5] at hA'
  obtain ⟨v0, vs0, d0, ds0, p0, q0, e0, rfl, rfl, _, r0⟩ := trodAll_cons hA'
  obtain ⟨v1, vs1, d1, ds1, p1, q1, e1, rfl, rfl, _, r1⟩ := trodAll_cons r0
  obtain ⟨_, rfl, rfl⟩ := trodAll_nil r1
  refine hc.mono fun e W' ⟨he, bel⟩ => ?_
  subst he
  exact ⟨_, rfl, _, _, _, [], _, [], hW', trodAll_mk1 (shut_bool Tryd.underlying4 _), rowOut laidOut bel (by kernel_rfl) hA, rfl, bel.frame _, fun h => by cases h⟩

theorem over : Rows.alarmOrdersRow.holds Tryd.pinned (OpenSpec.ofChange Rows.alarmOrdersSpec) :=
  OpenClaim.holds_of_wide 5 Tryd.f5 rfl rfl rfl rfl rfl rfl rfl ⟨rfl, rfl, rfl, rfl, rfl⟩ rfl rfl rfl rfl rfl (by kernel_rfl) Tryd.func5 (by kernel_rfl)
    (of_decide_eq_true (by kernel_rfl)) (by unfold Func.isWrapper; first | (rw [if_pos (by decide +kernel)]; kernel_rfl) | (rw [if_neg (by decide +kernel)]; exact ⟨rfl, rfl⟩))
    (fun os started H enc _ => lifted os started H enc)

/-- The statement. -/
theorem proved : Rows.AlarmOrdersCardSaid :=
  Claim7.holds_tied_plain_at .later [] [.data] true (true, "3a02e29e3b0c33c5a0fe985bdd6831eedcb6f3b33517c4291dff9e05887cec17") false
    over (fun _ h => by cases h) (by kernel_rfl) (fun _ h => by cases h) alarmOrders_row_tie rfl ⟨rfl, rfl⟩ (by kernel_rfl) rfl
    (fun f fn hf hfn => by
      obtain rfl : f = 5 := Option.some.inj ((show Tryd.prog.funcNamed "nightjar/nightjarlaw08.AlarmOrders" = some 5 by kernel_rfl).symm.trans hf) |>.symm
      obtain rfl : fn = Tryd.f5 := (Option.some.inj (Tryd.func5.symm.trans hfn)).symm
      exact ⟨by kernel_rfl, fun j t ht => wantsNone (by kernel_rfl) ht⟩)
    (by kernel_rfl)
#print axioms proved
end Go.Proofs.YtplefbcgpbdkfaaDoor.alarmOrdersDone
