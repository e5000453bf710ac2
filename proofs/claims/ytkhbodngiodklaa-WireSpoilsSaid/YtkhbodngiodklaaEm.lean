/- One state, by another one; contracts; calls. -/
import Derived.Test.YtkhbodngiodklaaEl
set_option linter.all false
namespace Go.Ex
open Go Go.RowKit

section
variable {P : Program} {T : TypeId → TI} {w0 : World} {fp : Base} {c : C} {s t : S} {a a' : Act} {f : FuncId} {R : Ending → World → Prop}

theorem Sg.row_foot {σ : Sg} {nv nr : Nat} {k o x : Nat} {fix : Bool} {sz : Nat} (h : rowF ((c.ren σ nv nr).r x) fix sz k o) : ∃ r, σ.sr x = some r ∧ rowF (c.r r) fix sz k o := by
  simp only [C.ren] at h
  cases hs : σ.sr x with
  | none => rw [hs] at h; exact h.elim
  | some r => rw [hs] at h; exact ⟨r, rfl, h⟩
/-- What is known, told by a pattern: some of the roots, under other numbers. -/
theorem Holds.weaken (h : Holds w0 fp c s a) {σ : Sg} (hok : σ.ok t.vars.length t.rows.length = true) (htm : RVs (c.ren σ t.vars.length t.rows.length) t.tmps a'.tmps.toList) (hde : a'.defers = [])
    (hv : ∀ (x : Nat) (b : Var), t.vars[x]? = some b → b.live = true → ∃ b' : Var, s.vars[σ.sv x]? = some b' ∧ b'.live = true ∧ ∀ (us : List Value), RCt c b'.ct us → RCt (c.ren σ t.vars.length t.rows.length) b.ct us)
    (hr : ∀ (x : Nat) (b : Row), t.rows[x]? = some b → b.live = true → (∃ r b', σ.sr x = some r ∧ s.rows[r]? = some b' ∧ b'.live = true ∧ b'.fix = b.fix ∧ b'.e = b.e ∧ b'.n.val = b.n.val ∧ ∃ h : b'.t.eq b.t = true, Tp.castL h b'.l = b.l) ∨ (σ.sr x = none ∧ b.fix = false ∧ b.l = [] ∧ b.n.val = 0))
    (hag : ∀ x ad, fp.g[x]? = some ad → x < t.vars.length ∧ σ.sv x = x) (har : ∀ r v, fp.r[r]? = some (some v) → σ.sr r = some r ∧ ∃ b, t.rows[r]? = some b ∧ b.live = true ∧ b.fix = true) :
    Holds w0 fp (c.ren σ t.vars.length t.rows.length) t a' := by
  have le0 := c.ren_le0 σ t.vars.length t.rows.length
  have rowEq : ∀ (x r : Nat), σ.sr x = some r → (c.ren σ t.vars.length t.rows.length).r x = c.r r := fun x r e => by simp [C.ren, e]
  have hf : ∀ q k o, foot (c.ren σ t.vars.length t.rows.length) t q k o → (∃ x b, q = .v x ∧ t.vars[x]? = some b ∧ foot c s (.v (σ.sv x)) k o) ∨ (∃ x r b, q = .r x ∧ t.rows[x]? = some b ∧ σ.sr x = some r ∧ foot c s (.r r) k o) := by
    intro q k o hq
    cases q with
    | v x =>
      obtain ⟨b, hb, hl, hk⟩ := hq
      obtain ⟨b', hb', hl', htr⟩ := hv x b hb hl
      obtain ⟨us, _, hu⟩ := (h.vars _ b' hb' hl').at_
      have hsz : b'.ct.size = b.ct.size := by rw [← hu.length, ← (htr us hu).length]
      exact .inl ⟨x, b, rfl, hb, b', hb', hl', by rw [hsz]; exact hk⟩
    | r x =>
      obtain ⟨b, hb, hl, hk⟩ := hq
      obtain ⟨r, hs, hk⟩ := Sg.row_foot hk
      rcases hr x b hb hl with ⟨r', b', e1, hb', hl', e2, _, _, ht, _⟩ | ⟨e1, _⟩
      · rw [hs] at e1
        obtain rfl := Option.some.inj e1
        have htt := Tp.of_eq ht
        exact .inr ⟨x, r, b, rfl, hb, hs, b', hb', hl', by rw [e2, htt]; exact hk⟩
      · rw [hs] at e1; cases e1
  refine { keeps := h.keeps, eF := h.eF, tmps := htm, defers := hde, nv := rfl, nr := rfl, vars := ?_, rows := ?_, disj := ?_, mine := ?_, flt := h.flt, ag := ?_, ar := ?_ }
  · intro x b hb hl
    obtain ⟨b', hb', hl', htr⟩ := hv x b hb hl
    have hvar := h.vars _ b' hb' hl'
    obtain ⟨us, hc, hu⟩ := hvar.at_
    have hsz : b'.ct.size = b.ct.size := by rw [← hu.length, ← (htr us hu).length]
    exact ⟨by rw [← hsz]; exact hvar.pos, us, hc, htr us hu⟩
  · intro x b hb hl
    rcases hr x b hb hl with ⟨r, b', e1, hb', hl', e2, e3, e4, ht, e5⟩ | ⟨e1, e2, e3, e4⟩
    · have hrow := h.rows r b' hb' hl'
      obtain ⟨us, hat, hR⟩ := hrow.at_
      have htt : b'.t.size = b.t.size := by rw [Tp.of_eq ht]
      have hll : b'.l.length = b.l.length := by rw [← e5, Tp.castL_length]
      refine ⟨by rw [← e4, ← hll]; exact hrow.len, us, ?_, ?_⟩
      · rw [rowEq x r e1, ← e2, ← e3, ← htt, ← hll]; exact hat
      · rw [← e5]; exact (hR.cast ht).le le0
    · refine ⟨by rw [e4, e3]; rfl, [], ⟨by rw [e3]; simp, .inl ⟨by simp [C.ren, e1], by rw [e3]; rfl⟩⟩, by rw [e3]; rfl⟩
  · intro q q' k o h1 h2
    rcases hf q k o h1 with ⟨x, b, rfl, hb, f1⟩ | ⟨x, r, b, rfl, hb, e1, f1⟩ <;> rcases hf q' k o h2 with ⟨x', b', rfl, hb', f2⟩ | ⟨x', r', b', rfl, hb', e2, f2⟩
    · have e := h.disj _ _ k o f1 f2
      injection e with e
      rw [Sg.sv_inj hok (List.getElem?_eq_some_iff.1 hb).1 (List.getElem?_eq_some_iff.1 hb').1 e]
    · have e := h.disj _ _ k o f1 f2
      cases e
    · have e := h.disj _ _ k o f1 f2
      cases e
    · have e := h.disj _ _ k o f1 f2
      injection e with e
      subst e
      rw [Sg.sr_inj hok (List.getElem?_eq_some_iff.1 hb).1 (List.getElem?_eq_some_iff.1 hb').1 e1 e2]
  · intro q k o h1
    rcases hf q k o h1 with ⟨x, b, rfl, hb, f1⟩ | ⟨x, r, b, rfl, hb, e1, f1⟩
    · exact h.mine _ k o f1
    · exact h.mine _ k o f1
  · intro x ad hx
    obtain ⟨q1, q2⟩ := hag x ad hx
    refine ⟨q1, ?_⟩
    show c.g (σ.sv x) = ad
    rw [q2]; exact (h.ag x ad hx).2
  · intro r v hrv
    obtain ⟨q1, q2⟩ := har r v hrv
    exact ⟨(rowEq r r q1).trans (h.ar r v hrv).1, q2⟩

/-! ### Contracts -/
inductive VP where
  | pk (t : Tp) | ls (l : List Sh)
structure RP where
  fix : Bool
  e : TypeId
  t : Tp
def VP.kn : VP → List Tp
  | .pk t => [t]
  | .ls l => Sh.kns l
def VP.kns : List VP → List Tp
  | [] => []
  | a :: l => a.kn ++ VP.kns l
def RP.kns : List RP → List Tp
  | [] => []
  | a :: l => .sl a.t :: RP.kns l
def VP.mk : VP → List U → Var × List U
  | .pk t, u :: l => (⟨true, .pk t (u.as t)⟩, l)
  | .ls shs, l => (⟨true, .ls (Sh.mks shs l).1⟩, (Sh.mks shs l).2)
  | _, l => (⟨false, .ls []⟩, l)
def VP.mks : List VP → List U → List Var × List U
  | [], l => ([], l)
  | a :: as, l => ((a.mk l).1 :: (VP.mks as (a.mk l).2).1, (VP.mks as (a.mk l).2).2)
def RP.mks : List RP → List U → List Row
  | a :: as, u :: l => ⟨true, a.fix, a.e, a.t, .s ((u.as (.sl a.t)).length : Int), u.as (.sl a.t)⟩ :: RP.mks as l
  | _, _ => []
/-- A contract: what comes in (and the roots that may be turned), names for what goes out. -/
structure Con where
  args : List Sh
  vars : List VP
  rows : List RP
  pre : List U → Prop
  outs : List Tp
  post : List U → List U → Prop
  ret : List U → List U → V
  vars' : List U → List U → List Var
  rows' : List U → List U → List Row
def Con.kn (k : Con) : List Tp := Sh.kns k.args ++ (VP.kns k.vars ++ RP.kns k.rows)
def Con.argV (k : Con) (us : List U) : List V := (Sh.mks k.args us).1
def Con.st (k : Con) (us : List U) : S :=
  let l := (Sh.mks k.args us).2
  ⟨[], (VP.mks k.vars l).1, RP.mks k.rows (VP.mks k.vars l).2, []⟩
def baseOf (c : C) (s : S) : Base := ⟨c.F, fun k o => ∃ q, foot c s q k o, (List.range s.vars.length).map c.g, (List.range s.rows.length).map fun r => match s.rows[r]? with | some b => if b.live && b.fix then some (c.r r) else none | none => none⟩
def Con.ok (P : Program) (g : FuncId) (k : Con) : Prop :=
  ∀ us, us.map U.t = k.kn → k.pre us → ∀ (c : C) (vals : List Value), Holds c.w (baseOf c (k.st us)) c (k.st us) ⟨#[], []⟩ → RVs c (k.argV us) vals →
    Calls P g vals.toArray c.w fun e w' => ∃ (u : Value) (os : List U) (c' : C), e = .returned u ∧ w' = c'.w ∧ os.map U.t = k.outs ∧ k.post us os ∧ RV c' (k.ret us os) u ∧ Holds c.w (baseOf c (k.st us)) c' ⟨[], k.vars' us os, k.rows' us os, []⟩ ⟨#[], []⟩

/-- The roots that stay where they are: how many variables, which rows. -/
structure Anc where
  nv : Nat
  fix : List Bool
def Anc.ok (A : Anc) (σ : Sg) (t : S) : Bool :=
  decide (A.nv ≤ t.vars.length) && (List.range A.nv).all (fun x => σ.sv x == x) && (List.range A.fix.length).all (fun r => !(A.fix.getD r false) || (σ.sr r == some r && (t.rows[r]?).any fun b => b.live && b.fix))
def Anc.of (A : Anc) (fp : Base) : Prop := fp.g.length = A.nv ∧ ∀ r v, fp.r[r]? = some (some v) → r < A.fix.length ∧ A.fix.getD r false = true
def Con.anc (k : Con) : Anc := ⟨k.vars.length, k.rows.map RP.fix⟩
theorem VP.mks_length : ∀ (ps : List VP) (l : List U), (VP.mks ps l).1.length = ps.length
  | [], l => rfl
  | p :: ps, l => by simp [VP.mks, VP.mks_length ps]
theorem RP.mks_get : ∀ {ps : List RP} {l : List U} {r : Nat} {b : Row}, (RP.mks ps l)[r]? = some b → ∃ p, ps[r]? = some p ∧ b.fix = p.fix
  | [], l, r, b, h => by cases l <;> simp [RP.mks] at h
  | p :: ps, [], r, b, h => by simp [RP.mks] at h
  | p :: ps, u :: l, 0, b, h => by simp [RP.mks] at h; subst h; exact ⟨p, rfl, rfl⟩
  | p :: ps, u :: l, r + 1, b, h => by simpa using RP.mks_get (ps := ps) (l := l) (r := r) (b := b) (by simpa [RP.mks] using h)
theorem Con.anc_of (k : Con) (us : List U) (c : C) : k.anc.of (baseOf c (k.st us)) := by
  refine ⟨by simp [baseOf, Con.anc, Con.st, VP.mks_length], fun r v hv => ?_⟩
  simp only [baseOf, List.getElem?_map, Option.map_eq_some_iff] at hv
  obtain ⟨r', hr', e⟩ := hv
  obtain ⟨hlt, he⟩ := List.getElem?_eq_some_iff.1 hr'
  simp at he hlt
  subst he
  split at e
  · rename_i b hb
    split at e
    · rename_i hc
      simp only [Bool.and_eq_true] at hc
      obtain ⟨p, hp, hpf⟩ := RP.mks_get hb
      refine ⟨by simp only [Con.anc, List.length_map]; exact (List.getElem?_eq_some_iff.1 hp).1, ?_⟩
      simp only [Con.anc, List.getD_eq_getElem?_getD, List.getElem?_map, hp, Option.map_some, Option.getD_some]
      rw [← hpf]; exact hc.2
    · cases e
  · cases e
/-- A contract is proved by going through the code. -/
theorem Con.of0 {g : FuncId} {fn : Func} {code : Code} {k : Con} (hfn : P.funcs[g]? = some fn) (hb : fn.body = some code)
    (h : ∀ us, us.map U.t = k.kn → k.pre us → ∀ w0 fp, k.anc.of fp →
      GoesS P g w0 fp (fun e w' => ∃ (u : Value) (os : List U) (c' : C), e = .returned u ∧ w' = c'.w ∧ os.map U.t = k.outs ∧ k.post us os ∧ RV c' (k.ret us os) u ∧ Holds w0 fp c' ⟨[], k.vars' us os, k.rows' us os, []⟩ ⟨#[], []⟩) [.code code] { k.st us with tmps := k.argV us ++ List.replicate (fn.ntmps - (k.argV us).length) (.v undef) }) : k.ok P g := by
  intro us hus hpre c vals hh hargs
  have hlen := hargs.length
  refine Calls.of_goes hfn hb (h us hus hpre c.w (baseOf c (k.st us)) (k.anc_of us c) (.items [.code code]) c _ rfl ?_)
  have hrep : ∀ n, RVs c (List.replicate n (.v undef)) (List.replicate n undef) := fun n => by
    induction n with
    | zero => exact .nil
    | succ n ih => exact .cons (by simp only [RV]) ih
  refine hh.same rfl rfl ?_ rfl
  simp only [Array.toList_append, Array.toList_replicate, List.size_toArray]
  rw [hlen]
  exact hargs.append (hrep _)

/-! ### The end of a function -/
def fdCt (w v : Ctn) (σ : Sg) : Sg :=
  match w, v with
  | .ls l, .ls l' => fdVs l l' σ
  | _, _ => σ
def fdVars (s : List Var) : Nat → List Var → Sg → Sg
  | _, [], σ => σ
  | k, b :: bs, σ => match s[σ.sv k]? with
    | some b' => fdVars s (k + 1) bs (fdCt b.ct b'.ct σ)
    | none => fdVars s (k + 1) bs σ
def packV : List V → V
  | [v] => v
  | vs => .tup vs
theorem pack_RV {c : C} {vs : List V} {us : List Value} (h : RVs c vs us) : RV c (packV vs) (pack us) := by
  match vs, us, h with
  | [], us, h => simp only [RVs] at h; subst h; simp only [packV, pack, RV]; exact ⟨_, rfl, .nil⟩
  | [v], us, h =>
    simp only [RVs] at h
    obtain ⟨u, us', rfl, hu, rfl⟩ := h
    exact hu
  | v :: v' :: vs, us, h =>
    have h0 := h
    simp only [RVs] at h
    obtain ⟨u, us', rfl, hu, u', us2, rfl, hu', hs⟩ := h
    simp only [packV, pack, RV]
    exact ⟨_, rfl, by simpa using h0⟩
theorem Anc.ok_sound {A : Anc} {fp : Base} {σ : Sg} {t : S} (h : A.ok σ t = true) (hA : A.of fp) : (∀ x ad, fp.g[x]? = some ad → x < t.vars.length ∧ σ.sv x = x) ∧ (∀ r v, fp.r[r]? = some (some v) → σ.sr r = some r ∧ ∃ b, t.rows[r]? = some b ∧ b.live = true ∧ b.fix = true) := by
  simp only [Anc.ok, Bool.and_eq_true, decide_eq_true_eq] at h
  obtain ⟨⟨h1, h2⟩, h3⟩ := h
  refine ⟨fun x ad hx => ?_, fun r v hr => ?_⟩
  · have hlt := (List.getElem?_eq_some_iff.1 hx).1
    rw [hA.1] at hlt
    have := List.all_eq_true.1 h2 x (by simpa using hlt)
    exact ⟨by omega, by simpa using this⟩
  · obtain ⟨q1, q2⟩ := hA.2 r v hr
    have := List.all_eq_true.1 h3 r (by simpa using q1)
    rw [q2] at this
    simp only [Bool.not_true, Bool.false_or, Bool.and_eq_true, beq_iff_eq, Option.any_eq_true] at this
    obtain ⟨e, b, hb, hl⟩ := this
    exact ⟨e, b, hb, hl.1, hl.2⟩
/-- The state is as a pattern says. -/
def chkS (A : Anc) (σ : Sg) (s t : S) (w v : List V) (p : Prop) : Prop :=
  if σ.ok t.vars.length t.rows.length && A.ok σ t then chkVs σ t.vars.length t.rows.length w v (chkVars σ t.vars.length t.rows.length s.vars 0 t.vars (chkRows σ s.rows 0 t.rows p)) else False
theorem chkS_sound {A : Anc} (hA : A.of fp) {σ : Sg} {w v : List V} {p : Prop} (h : chkS A σ s t w v p) : p ∧ ∀ (c : C) (a a' : Act), Holds w0 fp c s a → a'.defers = [] → (∀ us, RVs c v us → RVs (c.ren σ t.vars.length t.rows.length) w us) ∧
    (RVs (c.ren σ t.vars.length t.rows.length) t.tmps a'.tmps.toList → Holds w0 fp (c.ren σ t.vars.length t.rows.length) t a') := by
  unfold chkS at h
  split at h
  case isFalse => exact h.elim
  rename_i hc
  simp only [Bool.and_eq_true] at hc
  obtain ⟨h1, h2⟩ := chkVs_sound _ _ _ h
  obtain ⟨h3, h4⟩ := chkVars_sound h1
  obtain ⟨h5, h6⟩ := chkRows_sound h3
  obtain ⟨q1, q2⟩ := Anc.ok_sound hc.2 hA
  refine ⟨h5, fun c a a' hh hd => ⟨h2 c, fun htm => ?_⟩⟩
  refine hh.weaken hc.1 htm hd (fun x b hb hl => ?_) (fun x b hb hl => ?_) q1 q2
  · obtain ⟨b', e1, e2, e3⟩ := h4 x b hb hl
    rw [Nat.zero_add] at e1
    exact ⟨b', e1, e2, e3 c⟩
  · have := h6 x b hb hl
    rwa [Nat.zero_add] at this
def Con.fin (k : Con) (us : List U) (vs : List V) (s : S) : Prop :=
  exU k.outs fun os => k.post us os ∧ chkS k.anc (fdVars s.vars 0 (k.vars' us os) (fdV (k.ret us os) (packV vs) ⟨[], []⟩)) s ⟨[], k.vars' us os, k.rows' us os, []⟩ [k.ret us os] [packV vs] True
theorem Con.fin_sound {k : Con} {us : List U} {vs : List V} (hA : k.anc.of fp) (h : k.fin us vs s) :
    Fin w0 fp (fun e w' => ∃ (u : Value) (os : List U) (c' : C), e = .returned u ∧ w' = c'.w ∧ os.map U.t = k.outs ∧ k.post us os ∧ RV c' (k.ret us os) u ∧ Holds w0 fp c' ⟨[], k.vars' us os, k.rows' us os, []⟩ ⟨#[], []⟩) vs s := by
  intro c a ws hh hws
  obtain ⟨os, hos, hpost, h⟩ := exU_spec h
  obtain ⟨_, h⟩ := chkS_sound (w0 := w0) hA h
  obtain ⟨h1, h2⟩ := h c a ⟨#[], []⟩ hh rfl
  have hr := h1 [pack ws] (.cons (pack_RV hws) .nil)
  simp only [RVs] at hr
  obtain ⟨u, us', e, hu, e2⟩ := hr
  simp only [List.cons.injEq] at e
  obtain ⟨rfl, _⟩ := e
  exact ⟨pack ws, os, c.ren _ _ _, rfl, rfl, hos, hpost, hu, h2 RVs.nil⟩
end
end Go.Ex
