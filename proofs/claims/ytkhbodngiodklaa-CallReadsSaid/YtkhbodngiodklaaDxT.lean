/- Values that are built; numbers; lengths. -/
import Derived.Test.YtkhbodngiodklaaDxR
set_option linter.all false
namespace Go.Dx
open Go Go.RowKit

theorem run_mapM_list {α β : Type} {P : Program} {w : World} (f : α → Sem β) (g : α → β) : ∀ (l : List α), (∀ x ∈ l, (f x).run P w = .ok (g x) w) → (l.mapM f).run P w = .ok (l.map g) w
  | [], _ => by simp
  | x :: l, h => by
    simp only [List.mapM_cons, Sem.run_bind, h x (by simp), Result.andThen_ok, run_mapM_list f g l (fun y hy => h y (by simp [hy]))]
    simp
theorem run_mapM {α β : Type} {P : Program} {w : World} (f : α → Sem β) (g : α → β) (l : Array α) (h : ∀ x ∈ l.toList, (f x).run P w = .ok (g x) w) : (l.mapM f).run P w = .ok (l.map g) w := by
  rw [Array.mapM_eq_mapM_toList]
  simp only [Sem.run_map, run_mapM_list f g l.toList h, Result.andThen_ok]
  congr 1
  apply Array.ext'
  simp

section
variable {P : Program} {T : TypeId → TI} (hT : TabOK P T) {w0 : World} {fp : Nat → Prop} {c : C} {s : S} {a : Act}

theorem parts_len (parts : Array (Nat × Operand)) (s : S) (a : Act) : ((parts.map fun (i, x) => (i, a.eval x)).toList).length = (parts.toList.map fun (i, x) => (i, ev s x)).length := by simp
theorem parts_get (hH : RVs c s.tmps a.tmps.toList) (parts : Array (Nat × Operand)) (k : Nat) (p : Nat × V) (q : Nat × Value) (hp : (parts.toList.map fun (i, x) => (i, ev s x))[k]? = some p) (hq : ((parts.map fun (i, x) => (i, a.eval x)).toList)[k]? = some q) :
    ∃ i x, (i, x) ∈ parts.toList ∧ p = (i, ev s x) ∧ q = (i, a.eval x) := by
  simp only [Array.toList_map, List.getElem?_map, Option.map_eq_some_iff] at hp hq
  obtain ⟨⟨i, x⟩, h1, rfl⟩ := hp
  obtain ⟨⟨i', x'⟩, h2, rfl⟩ := hq
  rw [h1] at h2
  obtain ⟨rfl, rfl⟩ := Prod.mk.inj (Option.some.inj h2)
  exact ⟨i, x, List.mem_of_getElem? h1, rfl, rfl⟩

include hT
theorem build_sound (h : Holds w0 fp c s a) {t : TypeId} {parts : Array (Nat × Operand)} {v : V} {s' : S} (hop : op0 T s (.build t parts) = .ok v s') :
    s' = s ∧ Tells P w0 fp c s a .free (fun w => (Instr.build t (parts.map fun (i, x) => (i, a.eval x))).run P w) v := by
  have hd := hT.desc t
  simp only [op0] at hop
  split at hop
  case isFalse => cases hop
  rename_i hok
  split at hop
  · rename_i fs z hdt hz
    rw [hdt] at hd
    obtain ⟨hd1, hd2, hd3⟩ := hd
    split at hop
    case h_2 => cases hop
    rename_i l hl
    split at hop
    case isFalse => cases hop
    rename_i hall
    obtain ⟨rfl, rfl⟩ := R.ok.inj hop
    refine ⟨rfl, ?_⟩
    have hzr : RVs c z (T t).zero.cells.toList := by
      have := RV.ofVal (c := c) (T t).zero
      rw [hz] at this
      cases hzz : (T t).zero with
      | agg cs =>
        rw [hzz] at this hz
        simp only [RV] at this
        obtain ⟨us, e, hr⟩ := this
        obtain rfl := Value.agg.inj e
        exact hr
      | _ => rw [hzz] at hz; simp [ofVal, ofCell] at hz
    subst hd2
    have hplaces : ∀ w' : World, ((P.fieldsOf t).mapM fun (f : Field) => do pure (f.offset, ← sizeOf f.type)).run P w' = .ok ((P.fieldsOf t).map fun (f : Field) => (f.offset, (P.cellsOf f.type))) w' := by
      intro w'
      refine run_mapM _ _ _ (fun f hf => ?_)
      have := List.all_eq_true.1 hd3 f hf
      simp only [Option.any_eq_true_iff_get] at this
      obtain ⟨h1, _⟩ := this
      simp [Sem.run_bind, run_sizeOf w' (Option.some_get h1).symm]
    obtain ⟨lu, h1, h2, _⟩ := fillParts_sound (c := c) (fun i => (((P.fieldsOf t).toList.map fun f => (f.offset, f.type)).getD i (0, 0)).1) (fun i => ((P.fieldsOf t).map fun f => (f.offset, (P.cellsOf f.type)))[i]?) _ _ z (T t).zero.cells l hl hzr (parts_len parts s a)
      (fun k p q hp hq => by
        obtain ⟨i, x, hmem, rfl, rfl⟩ := parts_get h.tmps parts k p q hp hq
        have hxv := RV.ev h.tmps x
        refine ⟨rfl, hxv, ?_⟩
        have := List.all_eq_true.1 hall (i, x) hmem
        dsimp only at this ⊢
        cases hm : cells (ev s x) with
        | none => simp [hm] at this
        | some m =>
          simp only [hm, Option.elim_some] at this
          refine ⟨m, rfl, ?_⟩
          simp only [List.getElem?_map] at this
          cases hf : (P.fieldsOf t)[i]? with
          | none => simp [Array.getElem?_toList, hf] at this
          | some f =>
            simp only [Array.getElem?_toList, hf, Option.map_some, Option.elim_some, Bool.and_eq_true, beq_iff_eq] at this
            obtain ⟨i0, hi0, _, hs, _⟩ := hT.info this.1
            simp [hf, List.getD, Program.cellsOf, hi0, hs, this.2])
    refine h.still (u := .agg lu) ?_ (by simp only [RV]; exact ⟨_, rfl, h2⟩)
    intro w' _
    simp only [Instr.build, Sem.run_bind, hT.run_zero hok, Result.andThen_ok, run_underlying hd1 w', hplaces, h1, Sem.run_pure]
  · rename_i n e z hdt hz
    rw [hdt] at hd
    have hd1 : P.underlying t = some (.array n e) := hd
    split at hop
    case h_2 => cases hop
    rename_i l hl
    split at hop
    case isFalse => cases hop
    rename_i hall
    obtain ⟨rfl, rfl⟩ := R.ok.inj hop
    refine ⟨rfl, ?_⟩
    have hzr : RVs c z (T t).zero.cells.toList := by
      have := RV.ofVal (c := c) (T t).zero
      rw [hz] at this
      cases hzz : (T t).zero with
      | agg cs =>
        rw [hzz] at this hz
        simp only [RV] at this
        obtain ⟨us, e, hr⟩ := this
        obtain rfl := Value.agg.inj e
        exact hr
      | _ => rw [hzz] at hz; simp [ofVal, ofCell] at hz
    simp only [Bool.and_eq_true] at hall
    obtain ⟨hoke, hall⟩ := hall
    obtain ⟨lu, h1, h2, _⟩ := fillParts_sound (c := c) (fun i => i * (T e).size) (fun i => some (i * (T e).size, (T e).size)) _ _ z (T t).zero.cells l hl hzr (parts_len parts s a)
      (fun k p q hp hq => by
        obtain ⟨i, x, hmem, rfl, rfl⟩ := parts_get h.tmps parts k p q hp hq
        have hxv := RV.ev h.tmps x
        refine ⟨rfl, hxv, ?_⟩
        have := List.all_eq_true.1 hall (i, x) hmem
        dsimp only at this ⊢
        cases hm : cells (ev s x) with
        | none => simp [hm] at this
        | some m =>
          simp only [hm, Option.elim_some, Bool.and_eq_true, beq_iff_eq] at this
          exact ⟨m, rfl, by rw [this.2]⟩)
    refine h.still (u := .agg lu) ?_ (by simp only [RV]; exact ⟨_, rfl, h2⟩)
    intro w' _
    simp only [Instr.build, Sem.run_bind, hT.run_zero hok, Result.andThen_ok, run_underlying hd1 w', hT.run_size hoke, h1, Sem.run_pure]
  · cases hop
end
end Go.Dx
