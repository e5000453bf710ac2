/- One state, by another one; contracts; calls. -/
import Derived.Test.YtplefbcgpbdkfaaDoorFl
set_option linter.all false
namespace Go.Fx
open Go Go.RowKit

section
variable {P : Program} {T : TypeId → TI} {w0 : World} {fp : Base} {c : C} {s t : S} {a a' : Act} {f : FuncId} {R : Ending → World → Prop}

theorem Sg.row_foot {σ : Sg} {nv nr nb : Nat} {k o x : Nat} {fix : Bool} {sz : Nat} (h : rowF ((c.ren σ nv nr nb).r x) fix sz k o) : ∃ r, σ.sr x = some r ∧ rowF (c.r r) fix sz k o := by
  simp only [C.ren] at h
  cases hs : σ.sr x with
  | none => rw [hs] at h; exact h.elim
  | some r => rw [hs] at h; exact ⟨r, rfl, h⟩
/-- A root by its other number. -/
inductive Sg.img (σ : Sg) (nv nr nb : Nat) : Rt → Rt → Prop where
  | v (x : Nat) (h : x < nv) : Sg.img σ nv nr nb (.v x) (.v (σ.sv x))
  | r (x r : Nat) (h : x < nr) (hr : σ.sr x = some r) : Sg.img σ nv nr nb (.r x) (.r r)
  | o (x : Nat) (h : x < nb) : Sg.img σ nv nr nb (.o x) (.o (σ.so x))
theorem Sg.img_inj {σ : Sg} {nv nr nb : Nat} (hok : σ.ok nv nr nb = true) {q q' q0 : Rt} (h : σ.img nv nr nb q q0) (h' : σ.img nv nr nb q' q0) : q = q' := by
  cases h with
  | v x hx => generalize hz : Rt.v (σ.sv x) = z at h'; cases h' with
    | v y hy => injection hz with e; rw [Sg.sv_inj hok hx hy e]
    | r => cases hz
    | o => cases hz
  | r x r hx hr => generalize hz : Rt.r r = z at h'; cases h' with
    | v => cases hz
    | r y r' hy hr' => injection hz with e; subst e; rw [Sg.sr_inj hok hx hy hr hr']
    | o => cases hz
  | o x hx => generalize hz : Rt.o (σ.so x) = z at h'; cases h' with
    | v => cases hz
    | r => cases hz
    | o y hy => injection hz with e; rw [Sg.so_inj hok hx hy e]
/-- What is known, told by a pattern: some of the roots, under other numbers. -/
theorem Holds.weaken (h : Holds w0 fp c s a) {σ : Sg} (hok : σ.ok t.vars.length t.rows.length t.objs.length = true) (htm : RVs (c.ren σ t.vars.length t.rows.length t.objs.length) t.tmps a'.tmps.toList) (hde : a'.defers = [])
    (hv : ∀ (x : Nat) (b : Var), t.vars[x]? = some b → b.live = true → ∃ b' : Var, s.vars[σ.sv x]? = some b' ∧ b'.live = true ∧ ∀ (us : List Value), RCt c b'.ct us → RCt (c.ren σ t.vars.length t.rows.length t.objs.length) b.ct us)
    (hr : ∀ (x : Nat) (b : Row), t.rows[x]? = some b → b.live = true → (∃ r b', σ.sr x = some r ∧ s.rows[r]? = some b' ∧ b'.live = true ∧ b'.fix = b.fix ∧ b'.e = b.e ∧ b'.n.val = b.n.val ∧ ∃ h : b'.t.eq b.t = true, Tp.castL h b'.l = b.l) ∨ (σ.sr x = none ∧ b.fix = false ∧ b.l = [] ∧ b.n.val = 0))
    (ho : ∀ (x : Nat) (b : Ob), t.objs[x]? = some b → b.live = true → s.objs[σ.so x]? = some b) (hlk : t.lk = s.lk)
    (hag : ∀ x ad, fp.g[x]? = some ad → x < t.vars.length ∧ σ.sv x = x) (har : ∀ r v, fp.r[r]? = some (some v) → σ.sr r = some r ∧ ∃ b, t.rows[r]? = some b ∧ b.live = true ∧ b.fix = true)
    (hao : ∀ x v, fp.o[x]? = some (some v) → σ.so x = x ∧ ∃ b, t.objs[x]? = some b ∧ b.live = true ∧ b.k.still = true)
    (hgr : ∀ x r, x < t.rows.length → σ.sr x = some r → fp.lk.gr ≤ r ∨ r = x) (hgo : ∀ x, x < t.objs.length → fp.o.length ≤ σ.so x ∨ σ.so x = x) :
    Holds w0 fp (c.ren σ t.vars.length t.rows.length t.objs.length) t a' := by
  have le0 := c.ren_le0 σ t.vars.length t.rows.length t.objs.length
  have rowEq : ∀ (x r : Nat), σ.sr x = some r → (c.ren σ t.vars.length t.rows.length t.objs.length).r x = c.r r := fun x r e => by simp [C.ren, e]
  have hf : ∀ q k o, foot (c.ren σ t.vars.length t.rows.length t.objs.length) t q k o → ∃ q0, σ.img t.vars.length t.rows.length t.objs.length q q0 ∧ foot c s q0 k o := by
    intro q k o hq
    cases q with
    | v x =>
      obtain ⟨b, hb, hl, hk⟩ := hq
      obtain ⟨b', hb', hl', htr⟩ := hv x b hb hl
      obtain ⟨us, _, hu⟩ := (h.vars _ b' hb' hl').at_
      have hsz : b'.ct.size = b.ct.size := by rw [← hu.length, ← (htr us hu).length]
      exact ⟨_, .v x (List.getElem?_eq_some_iff.1 hb).1, b', hb', hl', by rw [hsz]; exact hk⟩
    | r x =>
      obtain ⟨b, hb, hl, hk⟩ := hq
      obtain ⟨r, hs, hk⟩ := Sg.row_foot hk
      rcases hr x b hb hl with ⟨r', b', e1, hb', hl', e2, _, _, ht, _⟩ | ⟨e1, _⟩
      · rw [hs] at e1
        obtain rfl := Option.some.inj e1
        have htt := Tp.of_eq ht
        exact ⟨_, .r x r (List.getElem?_eq_some_iff.1 hb).1 hs, b', hb', hl', by rw [e2, htt]; exact hk⟩
      · rw [hs] at e1; cases e1
    | o x =>
      obtain ⟨b, hb, hl, hk⟩ := hq
      exact ⟨_, .o x (List.getElem?_eq_some_iff.1 hb).1, b, ho x b hb hl, hl, hk⟩
  have hun : ∀ q q0, σ.img t.vars.length t.rows.length t.objs.length q q0 → fp.lk.has q = false → fp.lk.has q0 = false := by
    intro q q0 hi hq
    cases hi with
    | v x hx =>
      simp only [LK.has, decide_eq_false_iff_not] at hq ⊢
      intro hlt
      have hg := List.getElem?_eq_getElem (l := fp.g) (i := σ.sv x) (Nat.lt_of_lt_of_le hlt h.fpk.v)
      obtain ⟨q1, q2⟩ := hag _ _ hg
      have := Sg.sv_inj hok q1 hx q2
      omega
    | r x r hx hr' =>
      simp only [LK.has, decide_eq_false_iff_not] at hq ⊢
      intro hlt
      obtain ⟨v, hv'⟩ := h.fpk.r r hlt
      obtain ⟨q1, b, q2, _⟩ := har r v hv'
      have := Sg.sr_inj hok (List.getElem?_eq_some_iff.1 q2).1 hx q1 hr'
      omega
    | o x hx => simp [LK.has, h.fpk.o]
  refine { gl := h.gl, lk := hlk.trans h.lk, fpk := h.fpk, keeps := h.keeps, eF := h.eF, eF2 := h.eF2, tmps := htm, defers := hde, nv := rfl, nr := rfl, nb := rfl, vars := ?_, rows := ?_, objs := ?_, disj := ?_, mine := ?_, free := ?_, flt := h.flt, ag := ?_, ar := ?_, ao := ?_ }
  · intro x b hb hl
    obtain ⟨b', hb', hl', htr⟩ := hv x b hb hl
    have hvar := h.vars _ b' hb' hl'
    obtain ⟨us, hc, hu⟩ := hvar.at_
    have hsz : b'.ct.size = b.ct.size := by rw [← hu.length, ← (htr us hu).length]
    exact ⟨by rw [← hsz]; exact hvar.pos, us, hc, htr us hu⟩
  · intro x b hb hl
    rcases hr x b hb hl with ⟨r, b', e1, hb', hl', e2, e3, e4, ht, e5⟩ | ⟨e1, e2, e3, e4⟩
    · have hrow := h.rows r b' hb' hl'
      obtain ⟨us, hat, hR⟩ := hrow.at_
      have htt : b'.t.size = b.t.size := by rw [Tp.of_eq ht]
      have hll : b'.l.length = b.l.length := by rw [← e5, Tp.castL_length]
      refine ⟨by rw [← e4, ← hll]; exact hrow.len, us, ?_, ?_⟩
      · rw [rowEq x r e1, ← e2, ← e3, ← htt, ← hll]; exact hat
      · rw [← e5]; exact (hR.cast ht).le le0
    · refine ⟨by rw [e4, e3]; rfl, [], ⟨by rw [e3]; simp, .inl ⟨by simp [C.ren, e1], by rw [e3]; rfl⟩⟩, by rw [e3]; rfl⟩
  · intro x b hb hl
    exact h.objs _ b (ho x b hb hl) hl
  · intro q q' k o h1 h2
    obtain ⟨q0, i0, f0⟩ := hf q k o h1
    obtain ⟨q1, i1, f1⟩ := hf q' k o h2
    obtain rfl := h.disj _ _ k o f0 f1
    exact Sg.img_inj hok i0 i1
  · intro q k o h1
    obtain ⟨q0, i0, f0⟩ := hf q k o h1
    obtain ⟨m1, m2⟩ := h.mine _ k o f0
    refine ⟨m1.imp id fun m => ?_, m2⟩
    cases i0 with
    | v x hx => exact m
    | r x r hx hr' =>
      rcases hgr x r hx hr' with e | e
      · exact absurd m (h.fpk.gr _ k o e)
      · rw [← e]; exact m
    | o x hx => exact m
  · intro q k o h1 hq
    obtain ⟨q0, i0, f0⟩ := hf q k o h1
    exact h.free _ k o f0 (hun q q0 i0 hq)
  · intro x ad hx
    obtain ⟨q1, q2⟩ := hag x ad hx
    refine ⟨q1, ?_⟩
    show c.g (σ.sv x) = ad
    rw [q2]; exact (h.ag x ad hx).2
  · intro r v hrv
    obtain ⟨q1, q2⟩ := har r v hrv
    exact ⟨(rowEq r r q1).trans (h.ar r v hrv).1, q2⟩
  · intro x v hx
    obtain ⟨q1, q2⟩ := hao x v hx
    refine ⟨?_, q2⟩
    show c.ob (σ.so x) = v
    rw [q1]; exact (h.ao x v hx).1

/-! ### Contracts -/
/-- A contract: what comes in (and the roots that may be turned), names for what goes out. 'ro': nothing of what comes in is turned; 'lend': rows may be lent as data (nothing that goes out leads to data then). -/
structure Con where
  args : List Sh
  vars : List VP
  rows : List RP
  objs : List (OK × Tp)
  ro : Bool
  lend : Bool
  pre : List U → Prop
  outs : List Tp
  post : List U → List U → Prop
  ret : List U → List U → V
  vars' : List U → List U → List Var
  rows' : List U → List U → List Row
  objs' : List U → List U → List Ob
def Con.kn (k : Con) : List Tp := Sh.kns k.args ++ (VP.kns k.vars ++ (RP.kns k.rows ++ OP.kns k.objs))
def Con.argV (k : Con) (us : List U) : List V := (Sh.mks k.args us).1
def Con.lk (k : Con) : LK := if k.ro then ⟨k.vars.length, k.rows.length, 0, k.rows.length⟩ else ⟨0, 0, 0, k.rows.length⟩
def Con.st (k : Con) (us : List U) : S :=
  let l := (Sh.mks k.args us).2
  ⟨[], (VP.mks k.vars l).1, RP.mks k.rows (VP.mks k.vars l).2, OP.mks k.objs ((VP.mks k.vars l).2.drop k.rows.length), [], k.lk⟩
def Con.outS (k : Con) (us os : List U) : S := ⟨[], k.vars' us os, k.rows' us os, k.objs' us os, [], k.lk⟩
def baseOf (K : Env) (ro : Bool) (c : C) (s : S) : Base where
  F := c.F
  fo := foot c s
  kp := fun k o => ro = false ∧ ∃ q, foot c s q k o
  g := (List.range s.vars.length).map c.g
  r := (List.range s.rows.length).map fun r => match s.rows[r]? with | some b => if b.live && b.fix then some (c.r r) else none | none => none
  o := (List.range s.objs.length).map fun x => match s.objs[x]? with | some b => if b.live && b.k.still then some (c.ob x) else none | none => none
  lk := s.lk
  K := K
def Con.ok (K : Env) (P : Program) (g : FuncId) (k : Con) : Prop :=
  ∀ us, us.map U.t = k.kn → k.pre us → ∀ (c : C) (vals : List Value), Holds c.w (baseOf K k.ro c (k.st us)) c (k.st us) ⟨#[], []⟩ → RVs c (k.argV us) vals →
    Calls P g vals.toArray c.w fun e w' => ∃ (u : Value) (os : List U) (c' : C), e = .returned u ∧ w' = c'.w ∧ os.map U.t = k.outs ∧ k.post us os ∧ RV c' (k.ret us os) u ∧ Holds c.w (baseOf K k.ro c (k.st us)) c' (k.outS us os) ⟨#[], []⟩

/-- The roots that stay where they are: how many variables, which rows. -/
structure Anc where
  nv : Nat
  fix : List Bool
  ob : List Bool
def Anc.ok (A : Anc) (σ : Sg) (t : S) : Bool :=
  decide (A.nv ≤ t.vars.length) && (List.range A.nv).all (fun x => σ.sv x == x) && (List.range A.fix.length).all (fun r => !(A.fix.getD r false) || (σ.sr r == some r && (t.rows[r]?).any fun b => b.live && b.fix)) &&
    (List.range A.ob.length).all (fun x => !(A.ob.getD x false) || (σ.so x == x && (t.objs[x]?).any fun b => b.live && b.k.still)) &&
    ((List.range t.rows.length).all (fun x => (σ.sr x).all fun r => decide (A.fix.length ≤ r) || r == x) && (List.range t.objs.length).all (fun x => decide (A.ob.length ≤ σ.so x) || σ.so x == x))
structure Anc.of (A : Anc) (fp : Base) : Prop where
  g : fp.g.length = A.nv
  r : ∀ r v, fp.r[r]? = some (some v) → r < A.fix.length ∧ A.fix.getD r false = true
  o : ∀ x v, fp.o[x]? = some (some v) → x < A.ob.length ∧ A.ob.getD x false = true
  gr : fp.lk.gr = A.fix.length
  go : fp.o.length ≤ A.ob.length
def Con.anc (k : Con) : Anc := ⟨k.vars.length, k.rows.map RP.fix, k.objs.map fun a => a.1.still⟩
theorem VP.mks_length : ∀ (ps : List VP) (l : List U), (VP.mks ps l).1.length = ps.length
  | [], l => rfl
  | p :: ps, l => by simp [VP.mks, VP.mks_length ps]
theorem RP.mks_get : ∀ {ps : List RP} {l : List U} {r : Nat} {b : Row}, (RP.mks ps l)[r]? = some b → ∃ p, ps[r]? = some p ∧ b.fix = p.fix
  | [], l, r, b, h => by cases l <;> simp [RP.mks] at h
  | p :: ps, [], r, b, h => by simp [RP.mks] at h
  | p :: ps, u :: l, 0, b, h => by simp [RP.mks] at h; subst h; exact ⟨p, rfl, rfl⟩
  | p :: ps, u :: l, r + 1, b, h => by simpa using RP.mks_get (ps := ps) (l := l) (r := r) (b := b) (by simpa [RP.mks] using h)
theorem OP.mks_get : ∀ {ps : List (OK × Tp)} {l : List U} {r : Nat} {b : Ob}, (OP.mks ps l)[r]? = some b → ∃ p, ps[r]? = some p ∧ b.k = p.1 ∧ b.t = p.2
  | [], l, r, b, h => by cases l <;> simp [OP.mks] at h
  | p :: ps, [], r, b, h => by simp [OP.mks] at h
  | p :: ps, u :: l, 0, b, h => by simp [OP.mks] at h; subst h; exact ⟨p, rfl, rfl, rfl⟩
  | p :: ps, u :: l, r + 1, b, h => by simpa using OP.mks_get (ps := ps) (l := l) (r := r) (b := b) (by simpa [OP.mks] using h)
theorem OP.mks_le : ∀ (ps : List (OK × Tp)) (l : List U), (OP.mks ps l).length ≤ ps.length
  | [], l => by cases l <;> simp [OP.mks]
  | p :: ps, [] => by simp [OP.mks]
  | p :: ps, u :: l => by simpa [OP.mks] using OP.mks_le ps l
theorem Con.anc_of (k : Con) (us : List U) (K : Env) (c : C) : k.anc.of (baseOf K k.ro c (k.st us)) := by
  refine ⟨by simp [baseOf, Con.anc, Con.st, VP.mks_length], fun r v hv => ?_, fun x v hv => ?_, by simp only [baseOf, Con.st, Con.lk, Con.anc, List.length_map]; split <;> rfl, by simpa [baseOf, Con.anc, Con.st] using OP.mks_le _ _⟩
  · simp only [baseOf, List.getElem?_map, Option.map_eq_some_iff] at hv
    obtain ⟨r', hr', e⟩ := hv
    obtain ⟨hlt, he⟩ := List.getElem?_eq_some_iff.1 hr'
    simp at he hlt
    subst he
    split at e
    · rename_i b hb
      split at e
      · rename_i hc
        simp only [Bool.and_eq_true] at hc
        obtain ⟨p, hp, hpf⟩ := RP.mks_get hb
        refine ⟨by simp only [Con.anc, List.length_map]; exact (List.getElem?_eq_some_iff.1 hp).1, ?_⟩
        simp only [Con.anc, List.getD_eq_getElem?_getD, List.getElem?_map, hp, Option.map_some, Option.getD_some]
        rw [← hpf]; exact hc.2
      · cases e
    · cases e
  · simp only [baseOf, List.getElem?_map, Option.map_eq_some_iff] at hv
    obtain ⟨r', hr', e⟩ := hv
    obtain ⟨hlt, he⟩ := List.getElem?_eq_some_iff.1 hr'
    simp at he hlt
    subst he
    split at e
    · rename_i b hb
      split at e
      · rename_i hc
        simp only [Bool.and_eq_true] at hc
        obtain ⟨p, hp, hpf, _⟩ := OP.mks_get hb
        refine ⟨by simp only [Con.anc, List.length_map]; exact (List.getElem?_eq_some_iff.1 hp).1, ?_⟩
        simp only [Con.anc, List.getD_eq_getElem?_getD, List.getElem?_map, hp, Option.map_some, Option.getD_some]
        rw [← hpf]; exact hc.2
      · cases e
    · cases e
/-- A contract is proved by going through the code. -/
theorem Con.of0 {K : Env} {g : FuncId} {fn : Func} {code : Code} {k : Con} (hfn : P.funcs[g]? = some fn) (hb : fn.body = some code)
    (h : ∀ us, us.map U.t = k.kn → k.pre us → ∀ w0 fp, k.anc.of fp → fp.K = K →
      GoesS P g w0 fp (fun e w' => ∃ (u : Value) (os : List U) (c' : C), e = .returned u ∧ w' = c'.w ∧ os.map U.t = k.outs ∧ k.post us os ∧ RV c' (k.ret us os) u ∧ Holds w0 fp c' (k.outS us os) ⟨#[], []⟩) [.code code] { k.st us with tmps := k.argV us ++ List.replicate (fn.ntmps - (k.argV us).length) (.v undef) }) : k.ok K P g := by
  intro us hus hpre c vals hh hargs
  have hlen := hargs.length
  refine Calls.of_goes hfn hb (h us hus hpre c.w (baseOf K k.ro c (k.st us)) (k.anc_of us K c) rfl (.items [.code code]) c _ rfl ?_)
  have hrep : ∀ n, RVs c (List.replicate n (.v undef)) (List.replicate n undef) := fun n => by
    induction n with
    | zero => exact .nil
    | succ n ih => exact .cons (by simp only [RV]) ih
  refine hh.same rfl rfl ?_ rfl
  simp only [Array.toList_append, Array.toList_replicate, List.size_toArray]
  rw [hlen]
  exact hargs.append (hrep _)

/-! ### The end of a function -/
def fdCt (w v : Ctn) (σ : Sg) : Sg :=
  match w, v with
  | .ls l, .ls l' => fdVs l l' σ
  | _, _ => σ
def fdVars (s : List Var) : Nat → List Var → Sg → Sg
  | _, [], σ => σ
  | k, b :: bs, σ => match s[σ.sv k]? with
    | some b' => fdVars s (k + 1) bs (fdCt b.ct b'.ct σ)
    | none => fdVars s (k + 1) bs σ
def packV : List V → V
  | [v] => v
  | vs => .tup vs
theorem pack_RV {c : C} {vs : List V} {us : List Value} (h : RVs c vs us) : RV c (packV vs) (pack us) := by
  match vs, us, h with
  | [], us, h => simp only [RVs] at h; subst h; simp only [packV, pack, RV]; exact ⟨_, rfl, .nil⟩
  | [v], us, h =>
    simp only [RVs] at h
    obtain ⟨u, us', rfl, hu, rfl⟩ := h
    exact hu
  | v :: v' :: vs, us, h =>
    have h0 := h
    simp only [RVs] at h
    obtain ⟨u, us', rfl, hu, u', us2, rfl, hu', hs⟩ := h
    simp only [packV, pack, RV]
    exact ⟨_, rfl, by simpa using h0⟩
theorem Anc.ok_sound {A : Anc} {fp : Base} {σ : Sg} {t : S} (h : A.ok σ t = true) (hA : A.of fp) : (∀ x ad, fp.g[x]? = some ad → x < t.vars.length ∧ σ.sv x = x) ∧ (∀ r v, fp.r[r]? = some (some v) → σ.sr r = some r ∧ ∃ b, t.rows[r]? = some b ∧ b.live = true ∧ b.fix = true) ∧
    (∀ x v, fp.o[x]? = some (some v) → σ.so x = x ∧ ∃ b, t.objs[x]? = some b ∧ b.live = true ∧ b.k.still = true) ∧ (∀ x r, x < t.rows.length → σ.sr x = some r → fp.lk.gr ≤ r ∨ r = x) ∧ (∀ x, x < t.objs.length → fp.o.length ≤ σ.so x ∨ σ.so x = x) := by
  simp only [Anc.ok, Bool.and_eq_true, decide_eq_true_eq] at h
  obtain ⟨⟨⟨⟨h1, h2⟩, h3⟩, h4⟩, h5, h6⟩ := h
  refine ⟨fun x ad hx => ?_, fun r v hr => ?_, fun x v hx => ?_, fun x r hx hr => ?_, fun x hx => ?_⟩
  · have hlt := (List.getElem?_eq_some_iff.1 hx).1
    rw [hA.g] at hlt
    have := List.all_eq_true.1 h2 x (by simpa using hlt)
    exact ⟨by omega, by simpa using this⟩
  · obtain ⟨q1, q2⟩ := hA.r r v hr
    have := List.all_eq_true.1 h3 r (by simpa using q1)
    rw [q2] at this
    simp only [Bool.not_true, Bool.false_or, Bool.and_eq_true, beq_iff_eq, Option.any_eq_true] at this
    obtain ⟨e, b, hb, hl⟩ := this
    exact ⟨e, b, hb, hl.1, hl.2⟩
  · obtain ⟨q1, q2⟩ := hA.o x v hx
    have := List.all_eq_true.1 h4 x (by simpa using q1)
    rw [q2] at this
    simp only [Bool.not_true, Bool.false_or, Bool.and_eq_true, beq_iff_eq, Option.any_eq_true] at this
    obtain ⟨e, b, hb, hl⟩ := this
    exact ⟨e, b, hb, hl.1, hl.2⟩
  · have := List.all_eq_true.1 h5 x (by simpa using hx)
    rw [hr] at this
    rw [hA.gr]
    simpa using this
  · have := List.all_eq_true.1 h6 x (by simpa using hx)
    have hgo := hA.go
    simp only [Bool.or_eq_true, decide_eq_true_eq, beq_iff_eq] at this
    omega
/-- The state is as a pattern says. -/
def chkS (A : Anc) (σ : Sg) (s t : S) (w v : List V) (p : Prop) : Prop :=
  if σ.ok t.vars.length t.rows.length t.objs.length && A.ok σ t && decide (t.lk = s.lk) then chkVs σ t.vars.length t.rows.length t.objs.length w v (chkVars σ t.vars.length t.rows.length t.objs.length s.vars 0 t.vars (chkRows σ s.rows 0 t.rows (chkObjs σ s.objs 0 t.objs p))) else False
theorem chkS_sound {A : Anc} (hA : A.of fp) {σ : Sg} {w v : List V} {p : Prop} (h : chkS A σ s t w v p) : p ∧ ∀ (c : C) (a a' : Act), Holds w0 fp c s a → a'.defers = [] → (∀ us, RVs c v us → RVs (c.ren σ t.vars.length t.rows.length t.objs.length) w us) ∧
    (RVs (c.ren σ t.vars.length t.rows.length t.objs.length) t.tmps a'.tmps.toList → Holds w0 fp (c.ren σ t.vars.length t.rows.length t.objs.length) t a') := by
  unfold chkS at h
  split at h
  case isFalse => exact h.elim
  rename_i hc
  simp only [Bool.and_eq_true, decide_eq_true_eq] at hc
  obtain ⟨h1, h2⟩ := chkVs_sound _ _ _ h
  obtain ⟨h3, h4⟩ := chkVars_sound h1
  obtain ⟨h5, h6⟩ := chkRows_sound h3
  obtain ⟨h7, h8⟩ := chkObjs_sound h5
  obtain ⟨q1, q2, q3, q4, q5⟩ := Anc.ok_sound hc.1.2 hA
  refine ⟨h7, fun c a a' hh hd => ⟨h2 c, fun htm => ?_⟩⟩
  refine hh.weaken hc.1.1 htm hd (fun x b hb hl => ?_) (fun x b hb hl => ?_) (fun x b hb hl => ?_) hc.2 q1 q2 q3 q4 q5
  · obtain ⟨b', e1, e2, e3⟩ := h4 x b hb hl
    rw [Nat.zero_add] at e1
    exact ⟨b', e1, e2, e3 c⟩
  · have := h6 x b hb hl
    rwa [Nat.zero_add] at this
  · have := h8 x b hb hl
    rwa [Nat.zero_add] at this
def Con.fin (k : Con) (us : List U) (vs : List V) (s : S) : Prop :=
  exU k.outs fun os => k.post us os ∧ chkS k.anc (fdVars s.vars 0 (k.vars' us os) (fdV (k.ret us os) (packV vs) ⟨[], [], []⟩)) s (k.outS us os) [k.ret us os] [packV vs] True
theorem Con.fin_sound {k : Con} {us : List U} {vs : List V} (hA : k.anc.of fp) (h : k.fin us vs s) :
    Fin w0 fp (fun e w' => ∃ (u : Value) (os : List U) (c' : C), e = .returned u ∧ w' = c'.w ∧ os.map U.t = k.outs ∧ k.post us os ∧ RV c' (k.ret us os) u ∧ Holds w0 fp c' (k.outS us os) ⟨#[], []⟩) vs s := by
  intro c a ws hh hws
  obtain ⟨os, hos, hpost, h⟩ := exU_spec h
  obtain ⟨_, h⟩ := chkS_sound (w0 := w0) hA h
  obtain ⟨h1, h2⟩ := h c a ⟨#[], []⟩ hh rfl
  have hr := h1 [pack ws] (.cons (pack_RV hws) .nil)
  simp only [RVs] at hr
  obtain ⟨u, us', e, hu, e2⟩ := hr
  simp only [List.cons.injEq] at e
  obtain ⟨rfl, _⟩ := e
  exact ⟨pack ws, os, c.ren _ _ _ _, rfl, rfl, hos, hpost, hu, h2 RVs.nil⟩
end
end Go.Fx
