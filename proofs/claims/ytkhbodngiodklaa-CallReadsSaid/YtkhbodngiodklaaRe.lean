/- The row of CallReads. -/
import Derived.Test.YtkhbodngiodklaaRows
import Derived.Test.YtkhbodngiodklaaCe
import Derived.Test.YtkhbodngiodklaaDyP
import Derived.WalkKit
import Derived.ProofKit
import Derived.OpenShut
import Derived.ShutString
import Derived.ChangeOld
import Derived.Below
import Derived.Lib.SmallJoins
set_option linter.all false
namespace Go.Proofs.Ytkhbodngiodklaa.callReadsDone
open Go Go.ChangeShapes Go.WideShapes Go.ChangeAt Go.RowKit Go.Joins Go.Dx
open Go.ChangeMaps (open_string shut_string)

theorem own : ownKnob Try.prog.godebug = none := by kernel_rfl
theorem laidOut : laidOutB Try.prog = true := by kernel_rfl

theorem walk (op a b c n : Int) (f : Nat → Int) (v : Value) (w : World) (ha : wfK .u64 a) (hb : wfK .u64 b) (hc : wfK .u64 c) (hf : ∀ i : Nat, (i : Int) < n → wfK .u8 (f i)) (hv : RC (inC w) (.ro (.s n) 1 [.f (.i .u8 f)]) v) :
    Calls Try.prog 4 #[.agg #[.int .i64 op, .int .u64 a, .int .u64 b, .int .u64 c], v] w fun e w' => e = .returned (.bool true) ∧ Below w.heap.size w w' :=
  law_walk reads_ok [.i op, .i a, .i b, .i c, .i n, .ci f] rfl ⟨inU64_of ha, inU64_of hb, inU64_of hc, u8s_of hf⟩ w [.agg #[.int .i64 op, .int .u64 a, .int .u64 b, .int .u64 c], v] (by
    simp only [Sh.mks, Sh.mk, CSh.mks, CSh.mk, FSh.mk, RCs, List.length_cons, List.length_nil]
    exact ⟨_, _, rfl, by simp [RC, RCs, I.val], v, [], rfl, hv, rfl⟩)

set_option maxRecDepth 100000 in
theorem lifted (os : Os) (started : os.Started) (H : Type) (enc : TypeId × Value → H) :
    ReturnsInHanded {} Try.checked os 4 .any (Rows.callReadsSpec.pre6 enc Try.prog Try.f4 Rows.callReadsRow.domain false) (Rows.callReadsSpec.post enc Try.prog Try.f4 false true false false) := by
  refine returnsInHanded_of_change (C := Try.checked) own started (by kernel_rfl) Try.func4
    (ChangeSpec.witness6 (enc := enc) (C := Try.checked) false ⟨#[], #[.agg #[.int .i64 0, .int .u64 0, .int .u64 0, .int .u64 0], .slice none 0 0], []⟩ 8 (by kernel_rfl) (by kernel_rfl) (by kernel_rfl) (by kernel_rfl)) ?_
  intro W base args ds gs before hval0 hW hcnd _
  have hval : ∀ (j : Nat) t v, Try.f4.params[j]? = some t → args[j]? = some v → Value.okWide Try.prog W .any base t v := hval0
  have hW' := hW
  obtain ⟨p, q, hA0, hV, rfl, hfz, hnd⟩ := hW
  have hA : DataW.TrodAll enc Try.prog W 0 (fun _ => true) true Try.f4.params.toList args.toList ds p := hA0
  rw [Try.params4] at hA hval
  obtain ⟨v0, vs0, d0, ds0, p0, q0, hargs, rfl, rfl, h0, r0⟩ := trodAll_cons hA
  obtain ⟨v1, vs1, d1, ds1, p1, q1, rfl, rfl, rfl, h1, r1⟩ := trodAll_cons r0
  obtain ⟨rfl, rfl, rfl⟩ := trodAll_nil r1
  obtain rfl : args = #[v0, v1] := by cases args; simp_all
  obtain ⟨rfl, rfl⟩ := trodVars_none hV
  have k0 := h0
  have k1 := h1
  have lt0 : ∀ x ∈ p0, x.block < W.heap.size := by obtain ⟨m, hm⟩ := k0; exact DataW.trod_lt m _ _ _ hm
  have lt1 : ∀ x ∈ p1, x.block < W.heap.size := by obtain ⟨m, hm⟩ := k1; exact DataW.trod_lt m _ _ _ hm
  obtain ⟨c0, c1, c2, c3, y0, y1, y2, y3, m, rfl, _, _, hy0, hy1, hy2, hy3⟩ := open_agg4 Try.underlying24 (by kernel_rfl) (by kernel_rfl) (hval 0 24 v0 rfl rfl) h0
  obtain ⟨op, e0, _, _⟩ := DataW.trod_int Try.underlying3 hy0
  obtain ⟨a, e1, _, wa⟩ := DataW.trod_int Try.underlying22 hy1
  obtain ⟨b, e2, _, wb⟩ := DataW.trod_int Try.underlying22 hy2
  obtain ⟨c, e3, _, wc⟩ := DataW.trod_int Try.underlying22 hy3
  obtain ⟨sa, sl, sc, rfl⟩ := okWide_slice Try.underlying38 (hval 1 38 v1 rfl rfl)
  obtain ⟨fu, hfu⟩ := h1
  obtain ⟨n, us, hk, _, _, hwf, hrc⟩ := open_slice (fs := [.i .u8]) (d := 2) Try.underlying38 (by kernel_rfl) (by kernel_rfl) (by decide +kernel) hfu
  obtain ⟨f, rfl⟩ := kn_ci hk
  simp only [List.cons.injEq, and_true] at e0 e1 e2 e3
  subst e0 e1 e2 e3
  clear hA0 hval0
  refine (walk op a b c n f _ W wa wb wc hwf.1 hrc).mono fun e W' ⟨he, bel⟩ => ?_
  subst he
  exact ⟨_, rfl, _, _, _, [], _, [], hW', trodAll_mk1 (shut_bool Try.underlying4 _), (trodAll_cons_mk (Below.trod laidOut (by kernel_rfl) (of_decide_eq_true (by kernel_rfl)) k0 bel lt0) (trodAll_cons_mk (Below.trod laidOut (by kernel_rfl) (of_decide_eq_true (by kernel_rfl)) k1 bel lt1) trodAll_mk0)), rfl, bel.frame _, fun h => by cases h⟩

theorem over : Rows.callReadsRow.holds Try.pinned (OpenSpec.ofChange Rows.callReadsSpec) :=
  OpenClaim.holds_of_wide 4 Try.f4 rfl rfl rfl rfl rfl rfl rfl ⟨rfl, rfl, rfl, rfl, rfl⟩ rfl rfl rfl rfl rfl (by kernel_rfl) Try.func4 (by kernel_rfl)
    (of_decide_eq_true (by kernel_rfl)) (by unfold Func.isWrapper; first | (rw [if_pos (by decide +kernel)]; kernel_rfl) | (rw [if_neg (by decide +kernel)]; exact ⟨rfl, rfl⟩))
    (fun os started H enc _ => lifted os started H enc)

/-- The statement. -/
theorem proved : Rows.CallReadsSaid := over
#print axioms proved
end Go.Proofs.Ytkhbodngiodklaa.callReadsDone
