/- The row of WireSpoils. -/
import Derived.Test.YtkhbodngiodklaaRows
import Derived.Test.YtkhbodngiodklaaWd
import Derived.Test.YtkhbodngiodklaaEt
set_option linter.all false
namespace Go.Proofs.Ytkhbodngiodklaa.wireSpoilsDone
open Go Go.ChangeShapes Go.WideShapes Go.ChangeAt Go.RowKit Go.Joins Go.Ex

theorem own : ownKnob Try.prog.godebug = none := by kernel_rfl
theorem laidOut : laidOutB Try.prog = true := by kernel_rfl
set_option maxRecDepth 100000 in
theorem lifted (os : Os) (started : os.Started) (H : Type) (enc : TypeId × Value → H) :
    ReturnsInHanded {} Try.checked os 12 .any (Rows.wireSpoilsSpec.pre6 enc Try.prog Try.f12 Rows.wireSpoilsRow.domain false) (Rows.wireSpoilsSpec.post enc Try.prog Try.f12 false true false false) := by
  refine returnsInHanded_of_change (C := Try.checked) own started (by kernel_rfl) Try.func12
    (ChangeSpec.witness6 (enc := enc) (C := Try.checked) false ⟨#[], #[.slice none 0 0, .int .i64 0, .int .u8 0], []⟩ 8 (by kernel_rfl) (by kernel_rfl) (by kernel_rfl) (by kernel_rfl)) ?_
  intro W base args ds gs before hval hW hcnd _
  have hW' := hW
  obtain ⟨p, q, hA, hV, rfl, hfz, hnd⟩ := hW
  obtain ⟨rfl, rfl⟩ := trodVars_none hV
  obtain ⟨us, h1, h2, h3⟩ := rowIn (d := 8) ([tEs, .i .i64, .i .u8]) hA (by kernel_rfl) (fun j t v ht hv => hval j t v (by simpa using ht) (by simpa using hv))
  have hc := lawT_walk wspoils_ok us h1 h2 W _ h3
  rw [Array.toArray_toList] at hc
  have hA' := hA
  rw [Try.params12] at hA'
  obtain ⟨v0, vs0, d0, ds0, p0, q0, e0, rfl, rfl, _, r0⟩ := trodAll_cons hA'
  obtain ⟨v1, vs1, d1, ds1, p1, q1, e1, rfl, rfl, _, r1⟩ := trodAll_cons r0
  obtain ⟨v2, vs2, d2, ds2, p2, q2, e2, rfl, rfl, _, r2⟩ := trodAll_cons r1
  obtain ⟨_, rfl, rfl⟩ := trodAll_nil r2
  refine hc.mono fun e W' ⟨he, bel⟩ => ?_
  subst he
  exact ⟨_, rfl, _, _, _, [], _, [], hW', trodAll_mk1 (shut_bool Try.underlying4 _), rowOut laidOut bel (by kernel_rfl) hA, rfl, bel.frame _, fun h => by cases h⟩

theorem over : Rows.wireSpoilsRow.holds Try.pinned (OpenSpec.ofChange Rows.wireSpoilsSpec) :=
  OpenClaim.holds_of_wide 12 Try.f12 rfl rfl rfl rfl rfl rfl rfl ⟨rfl, rfl, rfl, rfl, rfl⟩ rfl rfl rfl rfl rfl (by kernel_rfl) Try.func12 (by kernel_rfl)
    (of_decide_eq_true (by kernel_rfl)) (by unfold Func.isWrapper; first | (rw [if_pos (by decide +kernel)]; kernel_rfl) | (rw [if_neg (by decide +kernel)]; exact ⟨rfl, rfl⟩))
    (fun os started H enc _ => lifted os started H enc)

/-- The statement. -/
theorem proved : Rows.WireSpoilsSaid := over
#print axioms proved
end Go.Proofs.Ytkhbodngiodklaa.wireSpoilsDone
