/- Laws' rows, whatever the parameters. -/
import Derived.Test.YtplefbcgpbdkfaaDoorFs
import Derived.WalkKit
import Derived.ProofKit
import Derived.OpenShut
import Derived.ShutString
import Derived.ChangeOld
import Derived.Below
import Derived.Carry
import Derived.Lib.SmallJoins
set_option linter.all false
namespace Go.Fx
open Go Go.RowKit Go.ChangeShapes Go.WideShapes

/-- Data that come in from outside. -/
structure Fits (t : Tp) (x : t.T) : Prop where
  out : t.fits x
def fitX : (ts : List Tp) → Prop → FnX Prop ts
  | [], p => p
  | t :: ts, p => fun x => fitX ts (p ∧ Fits t x)
/-- A law: of all that may come in it answers yes. -/
def lawT (ts : List Tp) : Con := ⟨ts.map .d, [], [], [], false, true, appX False ts (fitX ts True), [], fun _ _ => True, fun _ _ => .b (.l true), fun _ _ => [], fun _ _ => [], fun _ _ => []⟩
theorem kns_d : ∀ ts : List Tp, Sh.kns (ts.map .d) = ts
  | [] => rfl
  | t :: ts => by simp [Sh.kns, Sh.kn, kns_d ts]
theorem mks_d : ∀ (us : List U), (Sh.mks ((us.map U.t).map .d) us).1 = us.map fun u => toV u.t u.e
  | [] => rfl
  | u :: us => by
    have : U.as u.t u = u.e := U.as_self u.t u.e
    simp only [List.map_cons, Sh.mks, Sh.mk, mks_d us, this]
theorem fitX_of : ∀ (us : List U) (p : Prop), p → (∀ u ∈ us, u.t.fits u.e) → appX False (us.map U.t) (fitX (us.map U.t) p) us
  | [], p, hp, _ => hp
  | u :: us, p, hp, h => by
    have e : U.as u.t u = u.e := U.as_self u.t u.e
    show appX False (us.map U.t) (fitX (us.map U.t) (p ∧ Fits u.t (U.as u.t u))) us
    rw [e]
    exact fitX_of us _ ⟨hp, ⟨h u (by simp)⟩⟩ (fun v hv => h v (by simp [hv]))
theorem lawT_walk {K : Env} {P : Program} {g : FuncId} {ts : List Tp} (hk : (lawT ts).ok K P g) (us : List U) (hus : us.map U.t = ts) (hf : ∀ u ∈ us, u.t.fits u.e) (w : World) (hg : K.at_ w) (vals : List Value) (h : RVs (inC w) (us.map fun u => toV u.t u.e) vals) :
    Calls P g vals.toArray w fun e w' => e = .returned (.bool true) ∧ Below w.heap.size w w' := by
  subst hus
  have hst : (lawT (us.map U.t)).st us = ⟨[], [], [], [], [], ⟨0, 0, 0, 0⟩⟩ := by simp [Con.st, Con.lk, lawT, VP.mks, RP.mks, OP.mks]
  have hh : Holds w (baseOf K (lawT (us.map U.t)).ro (inC w) ((lawT (us.map U.t)).st us)) (inC w) ((lawT (us.map U.t)).st us) ⟨#[], []⟩ := by
    rw [hst]; exact Holds.init K w hg
  have harg : (lawT (us.map U.t)).argV us = us.map fun u => toV u.t u.e := mks_d us
  refine (hk us (by simp only [Con.kn, lawT, VP.kns, RP.kns, OP.kns, kns_d, List.append_nil]) (fitX_of us True trivial hf) (inC w) vals hh (by rw [harg]; exact h)).mono ?_
  rintro e w' ⟨u, os, c', rfl, rfl, hos, _, hr, hh'⟩
  have hr' : u = .bool true := by simpa [lawT, RV, B.val] using hr
  subst hr'
  rw [hst] at hh'
  exact ⟨rfl, init_ext hh'⟩

/-- The least of a kind, and that is what stands there. -/
structure IsZ (t : Tp) (x : t.T) : Prop where
  out : x = t.z
def nilX : (ts : List Tp) → Prop → FnX Prop ts
  | [], p => p
  | t :: ts, p => fun x => nilX ts (p ∧ IsZ t x)
def fitN : (ts ks : List Tp) → Prop → FnX Prop (ts ++ ks)
  | [], ks, p => nilX ks p
  | t :: ts, ks, p => fun x => fitN ts ks (p ∧ Fits t x)
def arT (E : Env) (n : Nat) : Tp := .sl (.p .pt (E.K n).t)
/-- A law that makes objects: of some kinds there are none as yet. -/
def lawTA (E : Env) (ts : List Tp) (ks : List Nat) : Con := ⟨ts.map .d, [], [], ks.map fun n => (.aren n, arT E n), false, true, appX False _ (fitN ts (ks.map (arT E)) True), ks.map (arT E), fun _ _ => True, fun _ _ => .b (.l true), fun _ _ => [], fun _ _ => [], fun _ os => OP.mks (ks.map fun n => (.aren n, arT E n)) os⟩
theorem nilX_of : ∀ (ks : List Tp) (p : Prop), p → appX False ks (nilX ks p) (ks.map fun t => ⟨t, t.z⟩)
  | [], p, hp => hp
  | t :: ks, p, hp => by
    have e : U.as t ⟨t, t.z⟩ = t.z := U.as_self t t.z
    show appX False ks (nilX ks (p ∧ IsZ t (U.as t ⟨t, t.z⟩))) _
    rw [e]
    exact nilX_of ks _ ⟨hp, ⟨rfl⟩⟩
theorem fitN_of : ∀ (us : List U) (ks : List Tp) (p : Prop), p → (∀ u ∈ us, u.t.fits u.e) → appX False (us.map U.t ++ ks) (fitN (us.map U.t) ks p) (us ++ ks.map fun t => ⟨t, t.z⟩)
  | [], ks, p, hp, _ => nilX_of ks p hp
  | u :: us, ks, p, hp, h => by
    have e : U.as u.t u = u.e := U.as_self u.t u.e
    show appX False (us.map U.t ++ ks) (fitN (us.map U.t) ks (p ∧ Fits u.t (U.as u.t u))) _
    rw [e]
    exact fitN_of us ks _ ⟨hp, ⟨h u (by simp)⟩⟩ (fun v hv => h v (by simp [hv]))
theorem OPkns_arT (E : Env) : ∀ ks : List Nat, OP.kns (ks.map fun n => (OK.aren n, arT E n)) = ks.map (arT E)
  | [] => rfl
  | k :: ks => by simp [OP.kns, OPkns_arT E ks]
theorem OPmks_arT (E : Env) : ∀ ks : List Nat, OP.mks (ks.map fun n => (OK.aren n, arT E n)) ((ks.map (arT E)).map fun t => ⟨t, t.z⟩) = ks.map fun n => ⟨true, .aren n, arT E n, []⟩
  | [] => rfl
  | k :: ks => by
    have e : U.as (arT E k) ⟨arT E k, (arT E k).z⟩ = (arT E k).z := U.as_self _ _
    simp only [List.map_cons, OP.mks, OPmks_arT E ks]
    rw [e]
    rfl
theorem mks_dA : ∀ (us l : List U), Sh.mks ((us.map U.t).map .d) (us ++ l) = (us.map fun u => toV u.t u.e, l)
  | [], l => rfl
  | u :: us, l => by
    have : U.as u.t u = u.e := U.as_self u.t u.e
    simp only [List.map_cons, Sh.mks, Sh.mk, List.cons_append, mks_dA us l, this]
theorem lawTA_walk {K : Env} {P : Program} {g : FuncId} {ts : List Tp} {ks : List Nat} (hk : (lawTA K ts ks).ok K P g) (us : List U) (hus : us.map U.t = ts) (hf : ∀ u ∈ us, u.t.fits u.e) (w : World) (hg : K.at_ w) (vals : List Value) (h : RVs (inC w) (us.map fun u => toV u.t u.e) vals) :
    Calls P g vals.toArray w fun e w' => e = .returned (.bool true) ∧ Below w.heap.size w w' := by
  subst hus
  let us' : List U := us ++ (ks.map (arT K)).map fun t => ⟨t, t.z⟩
  let c0 : C := ⟨w, fun k _ => k < w.heap.size, fun _ => (0, 0), fun _ => undef, fun _ => .bool true, fun _ _ _ => False, 0, 0, ks.length⟩
  have hst : (lawTA K (us.map U.t) ks).st us' = ⟨[], [], [], ks.map fun n => ⟨true, .aren n, arT K n, []⟩, [], ⟨0, 0, 0, 0⟩⟩ := by
    simp only [Con.st, Con.lk, lawTA, VP.mks, RP.mks, us', mks_dA, List.length_nil, List.drop_zero, OPmks_arT]
    rfl
  have harg : (lawTA K (us.map U.t) ks).argV us' = us.map fun u => toV u.t u.e := by
    simp only [Con.argV, lawTA, us', mks_dA]
  have hget : ∀ (x : Nat) (b : Ob), (ks.map fun n => (⟨true, .aren n, arT K n, []⟩ : Ob))[x]? = some b → ∃ n, b = ⟨true, .aren n, arT K n, []⟩ := fun x b hb => by
    rw [List.getElem?_map] at hb
    obtain ⟨n, _, rfl⟩ := Option.map_eq_some_iff.1 hb
    exact ⟨n, rfl⟩
  have hnf : ∀ q k o, ¬ foot c0 ⟨[], [], [], ks.map fun n => ⟨true, .aren n, arT K n, []⟩, [], ⟨0, 0, 0, 0⟩⟩ q k o := fun q k o hq => by
    cases q with
    | v i => obtain ⟨b, hb, _⟩ := hq; simp at hb
    | r i => obtain ⟨b, hb, _⟩ := hq; simp at hb
    | o i => obtain ⟨b, hb, _, hk⟩ := hq; exact hk
  have hh : Holds w (baseOf K (lawTA K (us.map U.t) ks).ro c0 ((lawTA K (us.map U.t) ks).st us')) c0 ((lawTA K (us.map U.t) ks).st us') ⟨#[], []⟩ := by
    rw [hst]
    exact
      { gl := hg, keeps := Keeps.refl _ _, eF := fun _ _ h => h, eF2 := fun _ _ h => .inl h, lk := rfl, fpk := ⟨Nat.zero_le _, fun r hr => absurd hr (Nat.not_lt_zero r), rfl, fun x k o _ h => (by obtain ⟨b, hb, _⟩ := h; simp at hb), fun r v h => (by simp [baseOf] at h)⟩, tmps := RVs.nil, defers := rfl, nv := rfl, nr := rfl, nb := by show ks.length = _; rw [List.length_map], vars := fun x b hb => by simp at hb, rows := fun x b hb => by simp at hb
        objs := fun x b hb _ => by
          obtain ⟨n, rfl⟩ := hget x b hb
          exact ⟨⟨1, [], fun _ _ => False, rfl, fun _ _ h => h⟩, fun k o h => h.elim, rfl⟩
        disj := fun q q' k o h => (hnf q k o h).elim, mine := fun q k o h => (hnf q k o h).elim, free := fun q k o h => (hnf q k o h).elim, flt := fun k o h => h, ag := fun x ad h => by simp [baseOf] at h, ar := fun r v h => by simp [baseOf] at h
        ao := fun r v h => by
          simp only [baseOf, List.getElem?_map, Option.map_eq_some_iff] at h
          obtain ⟨y, hy, h⟩ := h
          split at h
          · rename_i b hb
            obtain ⟨n, rfl⟩ := hget y b (by simpa using hb)
            obtain ⟨h1, h2⟩ := List.getElem?_eq_some_iff.1 hy
            simp at h1 h2
            subst h2
            simp only [OK.still, Bool.and_self, if_true] at h
            exact ⟨Option.some.inj h, _, by simpa using hb, rfl, rfl⟩
          · cases h }
  refine (hk us' (by simp only [Con.kn, lawTA, VP.kns, RP.kns, OPkns_arT, kns_d, us', List.map_append, List.nil_append]; simp) (fitN_of us _ True trivial hf) c0 vals hh (by rw [harg]; exact RVs.le (show (inC w).Le c0 from { F := fun _ _ h => h, spot := fun _ _ _ => rfl, g := fun _ h => absurd h (Nat.not_lt_zero _), nv := Nat.le_refl _, r := fun _ h => absurd h (Nat.not_lt_zero _), nr := Nat.le_refl _, ob := fun _ h => absurd h (Nat.not_lt_zero _), nb := Nat.zero_le _ }) _ _ h)).mono ?_
  rintro e w' ⟨u, os, c', rfl, rfl, hos, _, hr, hh'⟩
  have hr' : u = .bool true := by simpa [lawTA, RV, B.val] using hr
  subst hr'
  rw [hst] at hh'
  refine ⟨rfl, ?_⟩
  have hk := hh'.keeps
  have hx : Ext w c'.w := hk.ext fun k o h => by
    obtain ⟨_, q, h⟩ := h
    exact hnf q k o h
  exact ⟨hk.os, hk.tape, hk.output, hx.size, hx.block⟩

section
variable {H : Type} {enc : TypeId × Value → H} {P : Program} {w : World} {base : Nat} {spare : Nat → Bool} {held : Bool}
theorem chainO_isP : ∀ {l : List (Option Tp)} {τ : Tp}, 2 ≤ l.length → chainO l = some τ → τ.isP = true
  | [], τ, h, _ => by simp at h
  | [a], τ, h, _ => by simp at h
  | some a :: b :: l, τ, _, h => by
    simp only [chainO, Option.map_eq_some_iff] at h
    obtain ⟨q, _, rfl⟩ := h
    rfl
  | none :: b :: l, τ, _, h => by simp [chainO] at h
theorem rowIn1 {d : Nat} {t : TypeId} {v : Value} {x : DataW H} {ps : List MemPlace} {τ : Tp} {r : Reach} {b0 : Nat} (ho : tpT P d t = some τ) (hv : Value.okWide P w r b0 t v) (h : DataW.Trod enc P w base spare held t v x ps) : ∃ e : τ.T, τ.fits e ∧ RV (inC w) (toV τ e) v := by
  obtain ⟨fu, hfu⟩ := h
  obtain ⟨e, hf, hr⟩ := openD d fu t _ _ τ ho hfu
  refine ⟨e, hf, ?_⟩
  cases d with
  | zero => simp [tpT] at ho
  | succ d =>
    simp only [tpT] at ho
    cases hu : P.underlying t with
    | none => rw [hu] at ho; cases ho
    | some ds =>
      rw [hu] at ho
      cases ds with
      | int k =>
        obtain rfl := Option.some.inj ho
        obtain ⟨n, rfl⟩ := okWide_int hu hv
        exact Rp.toRV (by simpa [Value.cells] using hr) rfl
      | bool =>
        obtain rfl := Option.some.inj ho
        obtain ⟨n, rfl⟩ := okWide_bool hu hv
        exact Rp.toRV (by simpa [Value.cells] using hr) rfl
      | string =>
        obtain rfl := Option.some.inj ho
        obtain ⟨n, rfl⟩ := okWide_string hu hv
        exact Rp.toRV (by simpa [Value.cells] using hr) rfl
      | slice el =>
        obtain ⟨a, n, c, rfl⟩ := okWide_slice hu hv
        simp only at ho
        split at ho
        case h_2 => cases ho
        split at ho
        case isFalse => cases ho
        obtain rfl := Option.some.inj ho
        exact Rp.toRV (by simpa [Value.cells] using hr) rfl
      | struct fl =>
        obtain ⟨cs, rfl, _⟩ := okWide_struct hu hv
        simp only at ho
        split at ho
        case isFalse => cases ho
        rename_i hc
        simp only [Bool.and_eq_true, decide_eq_true_eq] at hc
        exact Rp.toRV' (by simpa [Value.cells] using hr) (chainO_isP (by simpa using hc.2) ho)
      | _ => cases ho
theorem rowIn {d : Nat} {r : Reach} {b0 : Nat} : ∀ {ts : List TypeId} {args : List Value} {ds : List (DataW H)} {ps : List MemPlace} (τs : List Tp), DataW.TrodAll enc P w base spare held ts args ds ps → ts.map (tpT P d) = τs.map some → (∀ (j : Nat) t v, ts[j]? = some t → args[j]? = some v → Value.okWide P w r b0 t v) →
    ∃ us : List U, us.map U.t = τs ∧ (∀ u ∈ us, u.t.fits u.e) ∧ RVs (inC w) (us.map fun u => toV u.t u.e) args
  | [], args, ds, ps, τs, h, ho, hv => by
    obtain ⟨rfl, _, _⟩ := trodAll_nil h
    cases τs with
    | nil => exact ⟨[], rfl, by simp, RVs.nil⟩
    | cons => simp at ho
  | t :: ts, args, ds, ps, τs, h, ho, hv => by
    obtain ⟨v, vs, d', ds', p, q, rfl, rfl, rfl, h1, h2⟩ := trodAll_cons h
    cases τs with
    | nil => simp at ho
    | cons τ τs =>
      simp only [List.map_cons, List.cons.injEq] at ho
      obtain ⟨e, hf, hr⟩ := rowIn1 ho.1 (hv 0 t v rfl rfl) h1
      obtain ⟨us, e1, e2, e3⟩ := rowIn τs h2 ho.2 (fun j t v ht hv' => hv (j + 1) t v (by simpa using ht) (by simpa using hv'))
      exact ⟨⟨τ, e⟩ :: us, by simp [e1], by simpa using ⟨hf, e2⟩, .cons hr e3⟩
theorem rowOut {W W' : World} (hl : laidOutB P = true) (bel : Below W.heap.size W W') : ∀ {ts : List TypeId} {args : List Value} {ds : List (DataW H)} {ps : List MemPlace}, (ts.all fun t => P.readableRec t && decide (t < P.types.size)) = true → DataW.TrodAll enc P W 0 (fun _ => true) true ts args ds ps → DataW.TrodAll enc P W' 0 (fun b => decide (b < W.heap.size)) true ts args ds ps
  | [], args, ds, ps, _, h => by
    obtain ⟨rfl, rfl, rfl⟩ := trodAll_nil h
    exact trodAll_mk0
  | t :: ts, args, ds, ps, hc, h => by
    obtain ⟨v, vs, d', ds', p, q, rfl, rfl, rfl, h1, h2⟩ := trodAll_cons h
    simp only [List.all_cons, Bool.and_eq_true, decide_eq_true_eq] at hc
    have lt0 : ∀ x ∈ p, x.block < W.heap.size := by obtain ⟨m, hm⟩ := h1; exact DataW.trod_lt m _ _ _ hm
    exact trodAll_cons_mk (Below.trod hl hc.1.1 hc.1.2 h1 bel lt0) (rowOut hl bel hc.2 h2)
end
end Go.Fx
