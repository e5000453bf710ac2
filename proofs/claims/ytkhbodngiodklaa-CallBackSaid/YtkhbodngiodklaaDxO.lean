/- Regions whose order is open: what holds in every grown world may be taken first. No program in sight. -/
import Derived.Test.YtkhbodngiodklaaDxM
import Derived.Test.YtkhbodngiodklaaDxQ
import Derived.OrdersHeld
set_option linter.all false
namespace Go.Dx
open Go

section
variable {P : Program} {ops : Array Oper} {Q : Exit → Act → World → Prop}

theorem lastOp_spec {i j : Nat} (h : lastOp ops j = true) (hi : i < ops.size) (hij : i ≠ j) : ∃ oj, ops[j]? = some oj ∧ ∃ e ∈ oj.after, Region.binds .any e = true ∧ e.on = i := by
  unfold lastOp at h
  have h1 := List.all_eq_true.1 h i (List.mem_range.2 hi)
  simp only [Bool.or_eq_true, beq_iff_eq, hij, false_or] at h1
  exact Region.waitsFor_spec h1

/-- Whatever order is picked from here on; behind each operation, but one that waits for all others, the blocks are as they were. -/
def wpE (P : Program) (ops : Array Oper) (Q : Exit → Act → World → Prop) : Nat → Array Bool → Act → World → Prop
  | 0, listed, a, w => Region.ready .any ops listed = [] ∧ Q .normal a w
  | n + 1, listed, a, w =>
    (Region.ready .any ops listed = [] → Q .normal a w) ∧
    ∀ i ∈ Region.ready .any ops listed, wpOp P ops Q i (fun a' w' => (Ext w w' ∨ lastOp ops i = true) ∧ wpE P ops Q n (listed.setIfInBounds i true) a' w') a w
theorem wpAny_of_E : ∀ (n : Nat) (listed : Array Bool) (a : Act) (w : World), wpE P ops Q n listed a w → wpAny P .any ops Q n listed a w
  | 0, _, _, _, h => h
  | n + 1, _, _, _, h => ⟨h.1, fun i hi => wpOp_mono (fun a' w' h' => wpAny_of_E n _ a' w' h'.2) (h.2 i hi)⟩

theorem YieldsIf.mono {S S' : World → Prop} {o : Oper} {v : Value} {a : Act} (h : YieldsIf P ops S o v a) (hs : ∀ w, S' w → S w) : YieldsIf P ops S' o v a :=
  h.imp (fun ⟨h1, h2⟩ => ⟨h1, fun w hw => h2 w (hs w hw)⟩) id

theorem wpE_first {i : Nat} {oi : Oper} {v : Value} (hi : ops[i]? = some oi) (hsel : Region.noSelect ops = true) (hQ : ∀ c a w, ¬ Q (.panic c) a w) :
    ∀ (n : Nat) (listed : Array Bool) (a : Act) (w : World),
      (∀ j oj, ops[j]? = some oj → j ≠ i → listed.getD j true = false → (∀ e ∈ oj.after, Region.binds .any e = true → e.on ≠ i) → oi.apart ops oj = true) →
      i ∈ Region.ready .any ops listed → YieldsIf P ops (Ext w) oi v a →
      wpE P ops Q n (listed.setIfInBounds i true) (a.put oi.dst v) w → wpE P ops Q (n + 1) listed a w := by
  intro n
  induction n with
  | zero =>
    intro listed a w _ hr hy H
    refine ⟨fun h => (by rw [h] at hr; cases hr), fun j hj => ?_⟩
    by_cases hji : j = i
    · subst hji; exact hy.wpOp hi (Ext.refl w) ⟨.inl (Ext.refl w), H⟩
    · have := ready_mono hj hji
      rw [H.1] at this
      cases this
  | succ n ih =>
    intro listed a w hfree hr hy H
    refine ⟨fun h => (by rw [h] at hr; cases hr), fun j hj => ?_⟩
    by_cases hji : j = i
    · subst hji; exact hy.wpOp hi (Ext.refl w) ⟨.inl (Ext.refl w), H⟩
    · have h1 := H.2 j (ready_mono hj hji)
      obtain ⟨hjun, oj, hoj, hall⟩ := mem_ready.1 hj
      have hnot : ∀ e ∈ oj.after, Region.binds .any e = true → e.on ≠ i := fun e he hb heq => by
        have h1 := hall e he hb
        have h0 := (mem_ready.1 hr).1
        rw [heq] at h1
        rcases Nat.lt_or_ge i listed.size with h' | h'
        · simp [h'] at h0 h1; rw [h0] at h1; cases h1
        · simp [Array.getElem?_eq_none h'] at h1
      have hlast : lastOp ops j = false := by
        cases hl : lastOp ops j with
        | false => rfl
        | true =>
          obtain ⟨oj', hoj', e, he, hb, hon⟩ := lastOp_spec hl (Array.getElem?_eq_some_iff.1 hi).1 (Ne.symm hji)
          obtain rfl : oj = oj' := Option.some.inj (hoj.symm.trans hoj')
          exact absurd hon (hnot e he hb)
      have h2 := wpOp_putIf hoj (hfree j oj hoj hji hjun hnot) (fun cs b => Region.noSelect_spec hsel i oi cs b hi) (fun cs b => Region.noSelect_spec hsel j oj cs b hoj) (fun c a w hp => absurd hp (hQ _ _ _)) hy h1
      have hfree' : ∀ k ok, ops[k]? = some ok → k ≠ i → (listed.setIfInBounds j true).getD k true = false →
          (∀ e ∈ ok.after, Region.binds .any e = true → e.on ≠ i) → oi.apart ops ok = true := fun k ok hk hki hun hno => by
        refine hfree k ok hk hki ?_ hno
        by_cases hjk : j = k
        · subst hjk; exact hjun
        · rw [getD_set_ne true hjk] at hun; exact hun
      refine wpOp_mono (fun a' w' h3 => ?_) h2
      obtain ⟨hy', hx, hrest⟩ := h3
      have hx' : Ext w w' := by
        rcases hx with hx | hx
        · exact hx
        · rw [hlast] at hx; cases hx
      refine ⟨.inl hx', ih (listed.setIfInBounds j true) a' w' hfree' (ready_mono hr (Ne.symm hji)) (YieldsIf.mono hy' fun w'' hw => hx'.trans hw) ?_⟩
      rw [Array.setIfInBounds_comm _ _ hji]
      exact hrest
end
end Go.Dx
