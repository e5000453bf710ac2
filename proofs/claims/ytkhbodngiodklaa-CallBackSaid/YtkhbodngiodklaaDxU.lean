/- Rows that are laid, appended to; numbers; lengths. -/
import Derived.Test.YtkhbodngiodklaaDxT
set_option linter.all false
namespace Go.Dx
open Go Go.RowKit

theorem one_of_cl {v : V} (h : cl v = true) : one v = true := by cases v <;> simp_all [cl, one]
theorem all_one_of_cl : ∀ {l : List V}, l.all cl = true → l.all one = true
  | [], _ => rfl
  | v :: l, h => by
    simp only [List.all_cons, Bool.and_eq_true] at h ⊢
    exact ⟨one_of_cl h.1, all_one_of_cl h.2⟩
theorem zeros_flat (zero : Array Value) (len size : Nat) (hz : zero.size = size) (hs : 0 < size) :
    ((Array.range (len * size)).map (fun i => zero[i % zero.size]!)).toList = (List.range len).flatMap fun _ => (List.range size).map fun j => zero.getD j default := by
  apply List.ext_getElem?
  intro t
  by_cases ht : t < len * size
  · have h1 := flat_get size (fun _ j => zero.getD j default) len (t / size) (t % size) (Nat.div_lt_of_lt_mul (by rw [Nat.mul_comm]; exact ht)) (Nat.mod_lt _ hs)
    rw [show t / size * size + t % size = t from by rw [Nat.mul_comm]; exact Nat.div_add_mod t size] at h1
    rw [h1]
    have hm : t % size < zero.size := by rw [hz]; exact Nat.mod_lt _ hs
    have e1 : zero[t % size]! = zero.getD (t % size) default := by simp [Array.getD, hm]
    subst hz
    rw [← e1]
    simp [ht]
  · rw [List.getElem?_eq_none (by simp; omega), List.getElem?_eq_none (by rw [flat_length]; omega)]
theorem zero_list (zero : Array Value) (size : Nat) (hz : zero.size = size) : (List.range size).map (fun j => zero.getD j default) = zero.toList := by
  apply List.ext_getElem?
  intro t
  by_cases ht : t < size
  · simp [ht, Array.getD, hz]
  · rw [List.getElem?_eq_none (by simp; omega), List.getElem?_eq_none (by simp; omega)]
theorem RVs.flat {c : C} {z : List V} {zu : List Value} (h : RVs c z zu) : ∀ n : Nat, RVs c ((List.range n).flatMap fun _ => z) ((List.range n).flatMap fun _ => zu)
  | 0 => by simp [RVs]
  | n + 1 => by
    rw [List.range_succ, List.flatMap_append, List.flatMap_append]
    refine RVs.append (RVs.flat h n) ?_
    simpa using h

section
variable {P : Program} {T : TypeId → TI} (hT : TabOK P T) {w0 : World} {fp : Nat → Prop} {c : C} {s : S} {a : Act}
include hT
theorem buildSlice_sound (h : Holds w0 fp c s a) {t : TypeId} {len : Nat} {parts : Array (Nat × Operand)} {v : V} {s' : S} (hop : op0 T s (.buildSlice t len parts) = .ok v s') :
    Tells P w0 fp c s' a .make (fun w => (Instr.buildSlice t len (parts.map fun (i, x) => (i, a.eval x))).run P w) v := by
  have hd := hT.desc t
  simp only [op0] at hop
  split at hop
  case h_2 => cases hop
  rename_i e hdt
  rw [hdt] at hd
  have hd1 : P.underlying t = some (.slice e) := hd
  split at hop
  case isFalse => cases hop
  rename_i hcond
  simp only [Bool.and_eq_true, decide_eq_true_eq] at hcond
  obtain ⟨⟨hok, hs0⟩, hbig⟩ := hcond
  split at hop
  case h_2 => cases hop
  rename_i z hz
  split at hop
  case h_2 => cases hop
  rename_i l hl
  split at hop
  case isFalse => cases hop
  rename_i hall
  simp only [Bool.and_eq_true, beq_iff_eq] at hall
  obtain ⟨⟨hzl, hcl⟩, hall⟩ := hall
  obtain ⟨rfl, rfl⟩ := R.ok.inj hop
  obtain ⟨hzr, _⟩ := (RV.ofVal (c := c) (T e).zero).cells hz
  have hzs := (hT.ok e hok).zsz
  have hz0 : RVs c ((List.range len).flatMap fun _ => z) ((Array.range (len * (T e).size)).map (fun i => (T e).zero.cells[i % (T e).zero.cells.size]!)).toList := by
    rw [zeros_flat _ len _ hzs hs0, zero_list _ _ hzs]
    exact hzr.flat len
  obtain ⟨lu, h1, h2, h3⟩ := fillParts_sound (c := c) (fun i => i * (T e).size) (fun i => some (i * (T e).size, (T e).size)) _ _ _ _ l hl hz0 (parts_len parts s a)
      (fun k p q hp hq => by
        obtain ⟨i, x, hmem, rfl, rfl⟩ := parts_get h.tmps parts k p q hp hq
        refine ⟨rfl, RV.ev h.tmps x, ?_⟩
        have := List.all_eq_true.1 hall (i, x) hmem
        dsimp only at this ⊢
        cases hm : cells (ev s x) with
        | none => simp [hm] at this
        | some m =>
          simp only [hm, Option.elim_some, beq_iff_eq] at this
          exact ⟨m, rfl, by rw [this]⟩)
  have hsz : lu.size = len * (T e).size := by rw [h3]; simp
  obtain ⟨le, hh⟩ := h.newRow (⟨true, e, (T e).size, .l len, .list l⟩ : Row) (v := .slice (some ⟨c.w.heap.size, 0, none⟩) len len) (w' := c.w.alloc (.cells lu e)) (us := lu.toList)
    (World.grownBy_alloc _ _ _) ⟨by simp [I.val, hsz], .inr ⟨c.w.heap.size, len, lu, rfl, Nat.le_refl _, heap_alloc_new c.w _, Nat.le_refl _, by unfold maxLen; have : len ≤ len * (T e).size := Nat.le_mul_of_pos_right len hs0; omega, hsz, List.take_of_length_le (by simp [I.val, hsz])⟩⟩ rfl (by simp [I.val])
    (by simpa [Ct.cells] using RCs.of_cl hcl h2) (RVs.one (all_one_of_cl hcl) h2)
  refine ⟨.slice (some ⟨c.w.heap.size, 0, none⟩) len len, c.newRow (.slice (some ⟨c.w.heap.size, 0, none⟩) len len) (c.w.alloc (.cells lu e)), ?_, hh, ?_, (fun h => by cases h), fun _ => Ext.alloc _ _⟩
  · simp only [Instr.buildSlice, Sem.run_bind, run_underlying hd1 c.w, Result.andThen_ok, hT.run_size hok]
    have hb : ¬ (len * (T e).size > 2 ^ 24) := by omega
    rw [if_neg hb]
    by_cases hl0 : len * (T e).size = 0
    · have h1' : Instr.fill (fun i => some (i * (T e).size, (T e).size)) #[] (parts.map fun (i, x) => (i, a.eval x)).toList = some lu := by
        rw [hl0, Array.range_zero', Array.map_empty] at h1; exact h1
      simp only [hl0, if_true, Sem.run_pure, Result.andThen_ok, Array.range_zero', Array.map_empty, h1', Sem.run_bind]
      simp [newRow, newObj, C.newRow]
      rfl
    · simp only [hl0, if_false, Sem.run_bind, hT.run_zero hok, Result.andThen_ok, Sem.run_pure, h1]
      simp [newRow, newObj, C.newRow]
      rfl
  · simp only [RV, C.newRow]
    exact ⟨by rw [h.nr]; omega, by rw [if_pos h.nr.symm], by rw [if_pos h.nr.symm]; rfl⟩

omit hT in
theorem run_binI (o : BinOp) (t : TypeId) (x y : Operand) (k k' : IntKind) (p q : I) (hk : (k == k' || o == .shl || o == .shr) = true) (ns : List Need) (hns : needI o q = some ns) (hn : needsOK ns) :
    ∃ u, (∀ w : World, ((do eqGuard o t x y (.int k p.val) (.int k' q.val); binOp o t (.int k p.val) (.int k' q.val)) : Sem Value).run P w = .ok u w) ∧ RV c (binI o k p q) u := by
  have hg : ∀ w : World, (eqGuard o t x y (.int k p.val) (.int k' q.val)).run P w = .ok () w := fun w => by cases o <;> rfl
  simp only [Sem.run_bind, hg, Result.andThen_ok]
  -- the comparisons
  have cmp : isCmp o = true → ∃ u, (∀ w : World, (binOp o t (.int k p.val) (.int k' q.val)).run P w = .ok u w) ∧ RV c (binI o k p q) u := fun hc => by
    have hkk : k = k' := by cases o <;> simp_all [isCmp]
    subst hkk
    have hb : ∀ b, b = litCmp o p.val q.val → RV c (binI o k p q) (.bool b) := fun b hb => by
      unfold binI
      rw [if_pos hc]
      cases p <;> cases q <;> simp [RV, RC, B.val, hb, I.val]
    refine ⟨.bool (litCmp o p.val q.val), fun w => ?_, hb _ rfl⟩
    cases o <;> first | (simp [isCmp] at hc; done) | simp [binOp, Op.intCmp, litCmp]
  by_cases hc : isCmp o = true
  · exact cmp hc
  · have hi : ∀ n, n = litArith o k p.val q.val → RV c (binI o k p q) (.int k n) := fun n hn => by
      unfold binI
      rw [if_neg hc]
      cases p <;> cases q <;> simp [RV, RC, hn, I.val]
    refine ⟨.int k (litArith o k p.val q.val), fun w => ?_, hi _ rfl⟩
    have hshift : ∀ y : Int, needI .shl q = some ns → 0 ≤ q.val := fun _ h => by
      cases q with
      | l n => simp only [needI] at h; split at h; · cases h
               · simp only [I.val]; omega
      | s n => simp only [needI, Option.some.injEq] at h; subst h; exact hn.1
    have hdiv : needI .quo q = some ns → q.val ≠ 0 := fun h => by
      cases q with
      | l n => simp only [needI] at h; split at h; · cases h
               · rename_i hne; simpa [I.val] using hne
      | s n => simp only [needI, Option.some.injEq] at h; subst h; exact hn.1
    cases o
    case eql | neq | lss | leq | gtr | geq => simp [isCmp] at hc
    case shl => have := hshift 0 hns; simp [binOp, Op.shift, litArith, show ¬ q.val < 0 by omega]
    case shr => have := hshift 0 hns; simp [binOp, Op.shift, litArith, show ¬ q.val < 0 by omega]
    case quo => have hkk : k = k' := by simpa using hk
                subst hkk; have := hdiv hns; simp [binOp, Op.intDiv, litArith, this]
    case rem => have hkk : k = k' := by simpa using hk
                subst hkk; have := hdiv hns; simp [binOp, Op.intDiv, litArith, this]
    all_goals
      have hkk : k = k' := by simpa using hk
      subst hkk
      simp [binOp, Op.intArith, Op.intBits, litArith]
end
end Go.Dx
