/- Contracts without objects hold whatever the kinds are. -/
import Derived.Test.YtplefbcgpbdkfaaDoorFq
set_option linter.all false
namespace Go.Fx
open Go Go.RowKit

theorem Con.ok.lift {P : Program} {K K' : Env} {g : FuncId} {k : Con} (h : k.ok K P g) (h1 : k.objs = []) (h2 : ∀ us os, k.objs' us os = []) (hgl : K.gl = []) : k.ok K' P g := by
  intro us hus hpre c vals hh hargs
  have hst : (k.st us).objs = [] := by simp [Con.st, h1, OP.mks]
  have hh1 : Holds c.w (baseOf K k.ro c (k.st us)) c (k.st us) ⟨#[], []⟩ :=
    { keeps := hh.keeps, eF := hh.eF, eF2 := hh.eF2, lk := hh.lk, fpk := ⟨hh.fpk.v, hh.fpk.r, hh.fpk.o, hh.fpk.gr, hh.fpk.rl⟩, tmps := hh.tmps, defers := hh.defers, nv := hh.nv, nr := hh.nr, nb := hh.nb, vars := hh.vars, rows := hh.rows
      objs := fun x b hb _ => by rw [hst] at hb; simp at hb
      disj := hh.disj
      mine := fun q k o hq => by have := hh.mine q k o hq; exact ⟨this.1.imp id fun z => by cases q <;> exact z, this.2⟩
      free := hh.free, flt := hh.flt, gl := fun p hp => by rw [show (baseOf K k.ro c (k.st us)).K.gl = K.gl from rfl, hgl] at hp; simp at hp
      ag := hh.ag, ar := hh.ar, ao := hh.ao }
  refine (h us hus hpre c vals hh1 hargs).mono ?_
  rintro e w' ⟨u, os, c', rfl, rfl, ho, hp, hr, hh2⟩
  have hso : (k.outS us os).objs = [] := h2 us os
  refine ⟨u, os, c', rfl, rfl, ho, hp, hr, ?_⟩
  exact
    { keeps := hh2.keeps, eF := hh2.eF, eF2 := hh2.eF2, lk := hh2.lk, fpk := hh.fpk, tmps := hh2.tmps, defers := hh2.defers, nv := hh2.nv, nr := hh2.nr, nb := hh2.nb, vars := hh2.vars, rows := hh2.rows
      objs := fun x b hb _ => by rw [hso] at hb; simp at hb
      disj := hh2.disj
      mine := fun q k o hq => by have := hh2.mine q k o hq; exact ⟨this.1.imp id fun z => by cases q <;> exact z, this.2⟩
      free := hh2.free, flt := hh2.flt
      gl := fun p hp => by
        obtain ⟨g1, g2⟩ := hh.gl p hp
        refine ⟨hh2.eF _ _ g1, cell_of_spot (hh2.keeps.spot _ _ (hh.flt _ _ g1) (fun hk => ?_)) g2⟩
        obtain ⟨_, q, hq⟩ := hk
        exact (hh.mine q _ _ hq).2 g1
      ag := hh2.ag, ar := hh2.ar, ao := hh2.ao }
def bareΓ : List (FuncId × Con) → Prop
  | [] => True
  | e :: Γ => (e.2.objs = [] ∧ ∀ us os, e.2.objs' us os = []) ∧ bareΓ Γ
theorem GOK.lift {P : Program} {K K' : Env} (hgl : K.gl = []) : ∀ {Γ : List (FuncId × Con)}, bareΓ Γ → GOK K P Γ → GOK K' P Γ
  | [], _, _ => GOK.nil
  | (g0, k0) :: Γ, hb, h => by
    have key : ∀ (Γ : List (FuncId × Con)), bareΓ Γ → ∀ g k, lookN Γ g = some k → k.objs = [] ∧ ∀ us os, k.objs' us os = [] := by
      intro Γ
      induction Γ with
      | nil => intro _ g k hl; simp [lookN] at hl
      | cons e Γ ih =>
        intro hb g k hl
        simp only [lookN] at hl
        split at hl
        · obtain rfl := Option.some.inj hl; exact hb.1
        · exact ih hb.2 g k hl
    intro g k hl
    obtain ⟨q1, q2⟩ := h g k hl
    obtain ⟨q3, q4⟩ := key _ hb g k hl
    exact ⟨q1, q2.lift q3 q4 hgl⟩
end Go.Fx
