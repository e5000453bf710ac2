/- What the machine stops at, and what is then to be shown. -/
import Derived.Test.YtplefbcgpbdkfaaDoorFj
set_option linter.all false
namespace Go.Fx
open Go Go.RowKit

def resRun (tmps : Array Value) : ResultVar → Sem Value
  | .tmp t => pure (tmps.getD t undef)
  | .cell a t => do loadVar t (← asAddr (tmps.getD a undef))
theorem results_eq (fn : Func) (tmps : Array Value) : results fn tmps = (do let vs ← fn.results.mapM (resRun tmps); pure (if h : vs.size = 1 then vs[0] else .tuple vs)) := rfl
def pack : List Value → Value
  | [u] => u
  | us => .tuple us.toArray

section
variable {P : Program} {T : TypeId → TI} (hT : TabOK P T) {w0 : World} {fp : Base} {c : C} {s : S} {a : Act} {f : FuncId} {R : Ending → World → Prop}

/-- Where one is: ahead of items, or within a region whose order is open. -/
inductive Pos where
  | items (l : List Item)
  | open_ (n : Nat) (ops : Array Oper) (listed : Array Bool) (rds : List Rt) (l : List Item)
  | pick (n : Nat) (ops : Array Oper) (listed : Array Bool) (j : Nat) (rds : List Rt) (l : List Item)
def Pos.its : Pos → List It
  | .items l => l.map slim
  | .open_ n ops li rds l => .openR n ops li rds :: l.map slim
  | .pick n ops li j rds l => .pickR n ops li j rds :: l.map slim
def endQ (P : Program) (f : FuncId) (R : Ending → World → Prop) (l : List Item) : Exit → Act → World → Prop := fun e a w => e = .normal ∧ Goes P f R l a w
def pickK (P : Program) (f : FuncId) (R : Ending → World → Prop) (n : Nat) (ops : Array Oper) (listed : Array Bool) (j : Nat) (A : Foot) (l : List Item) (w : World) : Act → World → Prop :=
  fun a' w' => (AgreeOn A w w' ∧ wpE P ops (endQ P f R l) n A (listed.setIfInBounds j true) a' w') ∨ (lastOp ops j = true ∧ wpE P ops (endQ P f R l) n (fun _ _ => False) (listed.setIfInBounds j true) a' w')
def GoesP (P : Program) (f : FuncId) (R : Ending → World → Prop) (c : C) (s : S) : Pos → Act → Prop
  | .items l, a => Goes P f R l a c.w
  | .open_ n ops li rds l, a => Region.noSelect ops = true → wpE P ops (endQ P f R l) n (RF c s rds) li a c.w
  | .pick n ops li j rds l, a => Region.noSelect ops = true → wpOp P ops (endQ P f R l) j (pickK P f R n ops li j (RF c s rds) l c.w) a c.w
def GoesS (P : Program) (f : FuncId) (w0 : World) (fp : Base) (R : Ending → World → Prop) (its : List It) (s : S) : Prop :=
  ∀ (p : Pos) (c : C) (a : Act), p.its = its → Holds w0 fp c s a → GoesP P f R c s p a
theorem RF_same {c : C} {s s' : S} (e1 : s'.vars = s.vars) (e2 : s'.rows = s.rows) (e3 : s'.objs = s.objs) (l : List Rt) : RF c s' l = RF c s l := by
  funext k o
  have : ∀ q, foot c s' q k o = foot c s q k o := fun q => by cases q <;> simp only [foot, e1, e2, e3]
  simp only [RF, this]
theorem RF_put {c : C} {s : S} {d : Option Nat} {v : V} (l : List Rt) : RF c (s.put d v) l = RF c s l := by cases d <;> rfl
/-- Some roots stay as they are. -/
structure KeepR (c : C) (s : S) (c' : C) (s' : S) (l : List Rt) : Prop where
  agree : AgreeOn (RF c s l) c.w c'.w
  sub : ∀ k o, RF c s l k o → RF c' s' l k o
theorem StepOK.keepR {c c' : C} {s s' : S} {tch l : List Rt} (h : StepOK c s c' s' tch) (hl : ∀ q, q ∈ tch → q ∉ l) : KeepR c s c' s' l :=
  ⟨fun k o hk => h.agree k o (hk.imp id fun ⟨q, hq, hf⟩ => ⟨q, fun ht => hl q ht hq, hf⟩), fun k o hk => hk.imp (h.F k o) fun ⟨q, hq, hf⟩ => ⟨q, hq, h.foot q k o (fun ht => hl q ht hq) hf⟩⟩
/-- The function may be called. -/
def Callable (P : Program) (g : FuncId) : Prop := ∀ (args : Array Value) (w : World), (callFunc g args).run P w = .ok (.enter g args) w
theorem Callable.of {g : FuncId} {fn : Func} (hf : P.funcs[g]? = some fn) (hn : (fn.name == "runtime.NumGoroutine") = false) (hb : fn.body.isSome = true) : Callable P g := by
  intro args w
  have hn' : fn.name ≠ "runtime.NumGoroutine" := by simpa using hn
  have hb' : fn.body ≠ none := by cases h : fn.body <;> simp [h] at hb ⊢
  simp [callFunc, hf, hn', hb']

/-- What a call of another function is to show. -/
def CallGood (P : Program) (f : FuncId) (w0 : World) (fp : Base) (R : Ending → World → Prop) (g : FuncId) (args : List V) (dst : Option Nat) (ask : Option (List Rt)) (its : List It) (s : S) : Prop :=
  Callable P g ∧ ∀ (c : C) (a : Act) (us : List Value), Holds w0 fp c s a → RVs c args us → Calls P g us.toArray c.w fun e w' => ∃ u, e = .returned u ∧ ∃ (c' : C) (s' : S) (v : V), c'.w = w' ∧ (∀ l, ask = some l → KeepR c s c' s' l) ∧ Holds w0 fp c' s' a ∧ RV c' v u ∧ GoesS P f w0 fp R its (s'.put dst v)
/-- What the end is to show. -/
def Fin (w0 : World) (fp : Base) (R : Ending → World → Prop) (vs : List V) (s : S) : Prop :=
  ∀ (c : C) (a : Act) (us : List Value), Holds w0 fp c s a → RVs c vs us → R (.returned (pack us)) c.w

def Out.needs : Out → List Need
  | .base s | .ret _ s | .branch _ _ s _ _ | .call _ _ _ _ _ s | .loop _ _ s | .out _ s | .stuck _ _ _ _ s | .fuel _ s | .bad _ s => s.needs
  | .fork _ s => s.needs
  | .say _ _ s => s.needs
/-- 'K': what lies below the items that the machine goes through. -/
def Out.good (P : Program) (f : FuncId) (w0 : World) (fp : Base) (R : Ending → World → Prop) (K : List It) : Out → Prop
  | .base s => GoesS P f w0 fp R K s.bare
  | .ret vs s => Fin w0 fp R vs s.bare
  | .branch b t1 s1 t2 s2 => (b = true → GoesS P f w0 fp R (t1 ++ K) s1.bare) ∧ (b = false → GoesS P f w0 fp R (t2 ++ K) s2.bare)
  | .call g args dst ask t s => CallGood P f w0 fp R g args dst ask (t ++ K) s.bare
  | .loop c t s => GoesS P f w0 fp R (.code (.loop c) :: (t ++ K)) s.bare
  | .out id s => ∃ K', exitIt id K = some K' ∧ GoesS P f w0 fp R K' s.bare
  | .stuck o all rest t s => GoesS P f w0 fp R (.ops all (o :: rest) :: (t ++ K)) s.bare
  | .fuel t s => GoesS P f w0 fp R (t ++ K) s.bare
  | .bad t s => GoesS P f w0 fp R (t ++ K) s.bare
  | .fork ts s => ∀ t ∈ ts, GoesS P f w0 fp R (t ++ K) s.bare
  | .say _ t s => GoesS P f w0 fp R (t ++ K) s.bare

theorem exitIt_append {id : Nat} : ∀ {k : List It} {K : List It}, exitIt id (k ++ K) = match exitIt id k with | some k' => some (k' ++ K) | none => exitIt id K
  | [], K => rfl
  | x :: k, K => by
    cases x with
    | inBlock id' =>
      simp only [List.cons_append, exitIt]
      split
      · rfl
      · exact exitIt_append
    | _ => simp only [List.cons_append, exitIt]; exact exitIt_append

theorem GoesP.of_bare {p : Pos} (h : GoesP P f R c s.bare p a) : GoesP P f R c s p a := by
  cases p <;> exact h
theorem GoesS.of_bare {its : List It} (h : GoesS P f w0 fp R its s.bare) : GoesS P f w0 fp R its s := fun todo c a ht hh => GoesP.of_bare (h todo c a ht hh.bare)

include hT in
theorem resV_sound (h : Holds w0 fp c s a) {r : ResultVar} {v : V} (hr : resV T s r = some v) :
    ∃ u, (resRun a.tmps r).run P c.w = .ok u c.w ∧ RV c v u := by
  cases r with
  | tmp t =>
    simp only [resV, Option.some.injEq] at hr
    subst hr
    exact ⟨_, rfl, by simpa [ev, Act.eval] using RV.ev (c := c) (s := s) (a := a) h.tmps (.tmp t)⟩
  | cell ad t =>
    have hx := RV.ev (c := c) (s := s) (a := a) h.tmps (.tmp ad)
    simp only [ev, Act.eval] at hx
    simp only [resV] at hr
    split at hr
    case h_2 => cases hr
    rename_i v' s' hop
    obtain rfl := Option.some.inj hr
    split at hop
    case isFalse => cases hop
    rename_i hok
    obtain ⟨_, u', h1, h2⟩ := load_sound hT h hok hx hop
    have h3 := h1 c.w (.refl _ _)
    refine ⟨u', ?_, h2⟩
    have hp : ∃ p, a.tmps.getD ad undef = .pointer (some p) := by
      cases hv : s.tmps.getD ad .junk with
      | lp x o => rw [hv] at hx; simp only [RV] at hx; exact ⟨_, hx.2⟩
      | rp q l i j => rw [hv] at hx; simp only [RV] at hx; obtain ⟨_, _, g, o, vs, e, _⟩ := hx; exact ⟨_, e⟩
      | op r sz i j => rw [hv] at hx; simp only [RV] at hx; obtain ⟨_, g, o, n, cap, _, _, _, e⟩ := hx; exact ⟨_, e⟩
      | _ => rw [hv] at hop; cases hop
    obtain ⟨p, hp⟩ := hp
    rw [hp] at h3
    simp only [Instr.loadAt, Instr.sureAddr, Sem.run_bind, Sem.run_pure, Result.andThen_ok] at h3
    simp only [resRun, Sem.run_bind, hp, asAddr, Sem.run_pure, Result.andThen_ok, h3]

include hT in
theorem resVs_sound (h : Holds w0 fp c s a) : ∀ {rs : List ResultVar} {vs : List V}, resVs T s rs = some vs →
    ∃ us, (rs.mapM (resRun a.tmps)).run P c.w = .ok us c.w ∧ RVs c vs us
  | [], vs, hr => by
    simp only [resVs, Option.some.injEq] at hr
    subst hr
    exact ⟨[], rfl, .nil⟩
  | r :: rs, vs, hr => by
    simp only [resVs] at hr
    cases h1 : resV T s r with
    | none => simp [h1] at hr
    | some v =>
      cases h2 : resVs T s rs with
      | none => simp [h1, h2] at hr
      | some vs' =>
        simp only [h1, h2, Option.some.injEq] at hr
        subst hr
        obtain ⟨u, q1, q2⟩ := resV_sound hT h h1
        obtain ⟨us, p1, p2⟩ := resVs_sound h h2
        refine ⟨u :: us, ?_, .cons q2 p2⟩
        simp only [List.mapM_cons, Sem.run_bind, q1, Result.andThen_ok, p1, Sem.run_pure]

include hT in
theorem results_sound (h : Holds w0 fp c s a) {fn : Func} {vs : List V} (hr : resVs T s fn.results.toList = some vs) : ∃ us, (results fn a.tmps).run P c.w = .ok (pack us) c.w ∧ RVs c vs us := by
  obtain ⟨us, h1, h2⟩ := resVs_sound hT h hr
  refine ⟨us, ?_, h2⟩
  rw [results_eq, Array.mapM_eq_mapM_toList]
  simp only [Sem.run_bind, Sem.run_map, h1, Result.andThen_ok, Sem.run_pure]
  congr 1
  match us with
  | [] => rfl
  | [u] => rfl
  | u :: u' :: us => simp [pack]

theorem exitIt_sound {id : Nat} : ∀ {k : List Item} {its : List It}, exitIt id (k.map slim) = some its → ∃ k', exitTo id k = some k' ∧ k'.map slim = its
  | [], its, h => by cases h
  | x :: k, its, h => by
    cases x with
    | inBlock id' =>
      simp only [List.map_cons, slim, exitIt] at h
      by_cases e : (id' == id) = true
      · simp only [e, if_true, Option.some.injEq] at h
        exact ⟨k, by simp [exitTo, e], h⟩
      · simp only [e, Bool.false_eq_true, if_false] at h
        obtain ⟨k', h1, h2⟩ := exitIt_sound h
        exact ⟨k', by simp [exitTo, e, h1], h2⟩
    | _ =>
      simp only [List.map_cons, slim, exitIt] at h
      obtain ⟨k', h1, h2⟩ := exitIt_sound h
      exact ⟨k', by simp [exitTo, h1], h2⟩

theorem slim_code {it : Item} {c : Code} (h : slim it = .code c) : it = .code c ∨ c = .refuse "" := by
  cases it <;> simp_all [slim]
theorem slim_inBlock {it : Item} {id : Nat} (h : slim it = .inBlock id) : it = .inBlock id := by cases it <;> simp_all [slim]
theorem slim_inLoop {it : Item} {c : Code} (h : slim it = .inLoop c) : it = .inLoop c := by cases it <;> simp_all [slim]
theorem slim_ops {it : Item} {all rest : List Oper} (h : slim it = .ops all rest) : ∃ ops is, it = .inRegion ops is ∧ all = ops.toList ∧ rest = is.filterMap (ops[·]?) := by
  cases it with
  | inRegion ops is => simp only [slim, It.ops.injEq] at h; exact ⟨ops, is, rfl, h.1.symm, h.2.symm⟩
  | _ => simp [slim] at h

theorem ops_next {ops : Array Oper} {k : List Item} {w : World} : ∀ {is : List Nat} {o : Oper} {rest : List Oper}, o :: rest = is.filterMap (ops[·]?) →
    ∃ i is', ops[i]? = some o ∧ rest = is'.filterMap (ops[·]?) ∧ (Goes P f R (.inRegion ops (i :: is') :: k) a w → Goes P f R (.inRegion ops is :: k) a w)
  | [], o, rest, h => by cases h
  | i :: is, o, rest, h => by
    cases ho : ops[i]? with
    | none =>
      simp only [List.filterMap_cons, ho] at h
      obtain ⟨i', is', h1, h2, h3⟩ := ops_next (is := is) h
      exact ⟨i', is', h1, h2, fun H => Goes.opNone ho (h3 H)⟩
    | some o' =>
      simp only [List.filterMap_cons, ho, List.cons.injEq] at h
      exact ⟨i, is, by rw [ho, h.1], h.2, fun H => H⟩
theorem ops_end {ops : Array Oper} {k : List Item} {w : World} : ∀ {is : List Nat}, [] = is.filterMap (ops[·]?) → Goes P f R k a w → Goes P f R (.inRegion ops is :: k) a w
  | [], _, H => Goes.next (fun b cs => step_region_end) H
  | i :: is, h, H => by
    cases ho : ops[i]? with
    | none =>
      simp only [List.filterMap_cons, ho] at h
      exact Goes.opNone ho (ops_end h H)
    | some o' => simp [List.filterMap_cons, ho] at h

theorem wanted_sound (h : RVs c s.tmps a.tmps.toList) {ops : Array Oper} {o : Oper} :
    (wanted ops.toList s o = .yes → Region.wanted o (yielded ops a.tmps) = true) ∧ (wanted ops.toList s o = .no → Region.wanted o (yielded ops a.tmps) = false) ∧
    ∀ b d, wanted ops.toList s o = .by_ b d → s.tmps[d]? = some (.b (.s b)) := by
  unfold wanted Region.wanted
  cases hg : o.guard with
  | none => simp
  | some jw =>
    obtain ⟨j, want⟩ := jw
    simp only [Array.getElem?_toList]
    cases hd : (ops[j]?).bind (·.dst) with
    | none => simp
    | some d =>
      simp only
      have hy : ∀ v, s.tmps[d]? = some v → ∃ u, a.tmps[d]? = some u ∧ RV c v u := fun v hv => by
        obtain ⟨u, h1, h2⟩ := h.get d hv
        exact ⟨u, by simpa using h1, h2⟩
      have hyd : yielded ops a.tmps j = match a.tmps[d]? with | some (.bool b) => some b | _ => none := by
        unfold yielded
        rw [hd]
        rfl
      rw [hyd]
      split
      · rename_i b hb
        obtain ⟨u, hu, hr⟩ := hy _ hb
        simp only [RV, Bval_l] at hr
        subst hr
        rw [hu]
        refine ⟨fun hq => ?_, fun hq => ?_, fun b' d' hq => ?_⟩
        · split at hq
          · rename_i e; simpa using e
          · cases hq
        · split at hq
          · cases hq
          · rename_i e; simpa using e
        · split at hq <;> cases hq
      · rename_i b hb
        refine ⟨fun hq => (by cases hq), fun hq => (by cases hq), fun b' d' hq => ?_⟩
        obtain ⟨rfl, rfl⟩ := Want.by_.inj hq
        exact hb
      · rename_i t hb
        obtain ⟨u, hu, hr⟩ := hy _ hb
        simp only [RV] at hr
        subst hr
        rw [hu]
        exact ⟨fun hq => (by cases hq), fun _ => by simp, fun b' d' hq => (by cases hq)⟩
      · exact ⟨fun hq => (by cases hq), fun hq => (by cases hq), fun b' d' hq => (by cases hq)⟩

/-- A slot whose value is known now. -/
theorem Holds.know (h : Holds w0 fp c s a) {d : Nat} {b b' : Bool} (hb : s.tmps[d]? = some (.b (.s b))) (e : b = b') : Holds w0 fp c (s.put (some d) (.b (.l b'))) a := by
  obtain ⟨u, hu, hr⟩ := h.tmps.get d hb
  simp only [RV, Bval_s] at hr
  subst hr
  have hp := h.put (v := .b (.l b')) (u := .bool b) (by simp only [RV, Bval_l, e]) (some d)
  have he : a.put (some d) (.bool b) = a := by
    unfold Act.put
    simp only
    have : a.tmps.setIfInBounds d (.bool b) = a.tmps := by
      apply Array.ext'
      rw [Array.toList_setIfInBounds]
      apply List.ext_getElem?
      intro i
      by_cases hi : d = i
      · subst hi
        rw [List.getElem?_set_self (List.getElem?_eq_some_iff.1 hu).1, hu]
      · rw [List.getElem?_set_ne hi]
    rw [this]
  rwa [he] at hp

theorem needsOK_tail : ∀ (l m : List Need), needsOK (l ++ m) → needsOK m
  | [], _, h => h
  | _ :: l, m, h => needsOK_tail l m h.2

theorem needsOK_head : ∀ (l m : List Need), needsOK (l ++ m) → needsOK l := needsOK_left
theorem range_ops (ops : Array Oper) : (List.range ops.size).filterMap (ops[·]?) = ops.toList := by
  have : ∀ (l : List Oper), (List.range l.length).filterMap (l[·]?) = l := by
    intro l
    induction l with
    | nil => rfl
    | cons x l ih =>
      rw [List.length_cons, List.range_succ_eq_map, List.filterMap_cons]
      simp only [List.getElem?_cons_zero, List.filterMap_map]
      congr 1
  have h := this ops.toList
  simpa using h
theorem put_needs (d : Option Nat) (v : V) : (s.put d v).needs = s.needs := by cases d <;> rfl
theorem store_needs {t : TypeId} {x y : V} {s' : S} (h : opStore T s t x y = .skip s') : s'.needs = s.needs := by
  unfold opStore at h
  repeat' split at h
  all_goals first | (cases h; rfl) | cases h

/-! ### A region whose order is open -/
def C.drew (c : C) : C := { c with w := { c.w with drawn := c.w.drawn + 1 } }
theorem C.drew_le (c : C) : c.Le c.drew := { F := fun _ _ h => h, spot := fun _ _ _ => rfl, g := fun _ _ => rfl, nv := Nat.le_refl _, r := fun _ _ => rfl, nr := Nat.le_refl _, ob := fun _ _ => rfl, nb := Nat.le_refl _ }
theorem Holds.drew (h : Holds w0 fp c s a) : Holds w0 fp c.drew s a :=
  h.turn (c' := c.drew) (D := fun _ _ => False) ⟨rfl, rfl, rfl, Nat.le_refl _, fun _ _ _ _ => rfl, fun _ cs _ _ h => ⟨cs, h, rfl⟩, Nat.le_succ _⟩ (fun _ _ h => h.elim) rfl (RVs.le c.drew_le _ _ h.tmps) h.defers h.nv h.nr
    (fun x b hb hl => (h.vars x b hb hl).keep (fun _ _ _ => rfl) rfl rfl (fun us hr => hr.le c.drew_le))
    (fun r b hb hl => (h.rows r b hb hl).keep (fun _ _ _ => rfl) rfl c.drew_le.toLe0) (fun q k o hq => .inl (by cases q <;> exact hq)) (fun q q' k o hlt h1 _ => absurd (foot_lt h (q := q) (k := k) (o := o) (by cases q <;> exact h1)) (by omega)) (fun x hx => ⟨hx, rfl⟩) (fun r b hb hl hf => ⟨rfl, b, hb, hl, hf⟩) rfl rfl rfl rfl rfl (fun _ _ _ h => h.elim)
theorem runQ_needs {all : List Oper} : ∀ (l : List Oper) (s s' : S), runQ T all l s = some s' → needsOK s'.needs → needsOK s.needs
  | [], s, s', h, hn => by simp only [runQ, Option.some.injEq] at h; subst h; exact hn
  | o :: r, s, s', h, hn => by
    simp only [runQ] at h
    split at h
    · have := runQ_needs r _ s' h hn
      rwa [put_needs] at this
    · split at h
      · split at h
        · split at h
          · rename_i s1 hst
            have := runQ_needs r _ s' h hn
            rwa [put_needs, store_needs hst] at this
          · cases h
        · cases h
      · split at h
        · have := runQ_needs r _ s' h hn
          rw [put_needs] at this
          exact needsOK_tail _ _ this
        · cases h
    · cases h
include hT in
theorem runQ_list {ops : Array Oper} {Q : Exit → Act → World → Prop} : ∀ (l : List Oper) (s s' : S) (c : C) (a : Act), runQ T ops.toList l s = some s' → needsOK s'.needs → Holds w0 fp c s a →
    (∀ c' a', Holds w0 fp c' s' a' → Q .normal a' c'.w) → wpList P ops Q l a c.w
  | [], s, s', c, a, h, hn, hh, hQ => by
    simp only [runQ, Option.some.injEq] at h
    subst h
    exact hQ c a hh
  | o :: r, s, s', c, a, h, hn, hh, hQ => by
    obtain ⟨w1, w2, _⟩ := wanted_sound hh.tmps (ops := ops) (o := o)
    simp only [runQ] at h
    unfold wpList
    split at h
    · rename_i hw
      rw [w2 hw]
      exact runQ_list r _ s' c _ h hn (hh.put (v := .v undef) (u := undef) (by simp only [RV]) o.dst) hQ
    · rename_i hw
      rw [w1 hw]
      simp only [if_true]
      left
      unfold Oper.wp
      split at h
      · rename_i t x y ho
        split at h
        · rename_i hok
          split at h
          · rename_i s1 hst
            obtain ⟨c', hr, hh', _⟩ := op_skip hT hh ho hok hst
            rw [hr]
            exact runQ_list r _ s' c' _ h hn (hh'.put (v := .v undef) (u := undef) (by simp only [RV]) o.dst) hQ
          · cases h
        · cases h
      · split at h
        · rename_i v s1 hop
          have hneeds := runQ_needs r _ s' h hn
          rw [put_needs] at hneeds
          obtain ⟨u, c', hr, hh', hv, _⟩ := op_sound hT hh.bare hop (needsOK_left _ _ hneeds)
          rw [hr]
          exact runQ_list r _ s' c' _ h hn ((hh'.needs _).put hv o.dst) hQ
        · cases h
    · cases h
include hT in
theorem runQ_still {ops : Array Oper} {Qs : Act → Prop} {l2 : List Oper} : ∀ (l1 : List Oper) (s s' : S) (c : C) (a : Act), (∀ o ∈ l1, isQuiet o.op = true) → runQ T ops.toList (l1 ++ l2) s = some s' → needsOK s'.needs → Holds w0 fp c s a →
    (∀ c' s1 a', c'.w = c.w → runQ T ops.toList l2 s1 = some s' → Holds w0 fp c' s1 a' → Qs a') → wpStill P ops c.w Qs l1 a
  | [], s, s', c, a, _, h, hn, hh, hQ => hQ c s a rfl h hh
  | o :: r, s, s', c, a, hq, h, hn, hh, hQ => by
    obtain ⟨w1, w2, _⟩ := wanted_sound hh.tmps (ops := ops) (o := o)
    simp only [List.cons_append, runQ] at h
    unfold wpStill
    split at h
    · rename_i hw
      rw [w2 hw]
      exact runQ_still r _ s' c _ (fun x hx => hq x (by simp [hx])) h hn (hh.put (v := .v undef) (u := undef) (by simp only [RV]) o.dst) hQ
    · rename_i hw
      rw [w1 hw]
      simp only [if_true]
      unfold Oper.still
      split at h
      · rename_i t x y ho
        have := hq o (by simp)
        rw [ho] at this
        cases this
      · split at h
        · rename_i v s1 hop
          have hneeds := runQ_needs (r ++ l2) _ s' h hn
          rw [put_needs] at hneeds
          obtain ⟨u, c', hr, hh', hv, hsame⟩ := op_sound hT hh.bare hop (needsOK_left _ _ hneeds)
          have hcw := congrArg C.w (hsame.1 (hq o (by simp))).1
          rw [hr]
          refine ⟨hcw, ?_⟩
          rw [← hcw]
          exact runQ_still r _ s' c' _ (fun x hx => hq x (by simp [hx])) h hn ((hh'.needs _).put hv o.dst) (fun c2 s2 a2 e => hQ c2 s2 a2 (e.trans hcw))
        · cases h
    · cases h
theorem quietN_quiet : ∀ (l : List Oper), ∀ o ∈ l.take (quietN l), isQuiet o.op = true
  | [], o, h => by simp at h
  | x :: l, o, h => by
    simp only [quietN] at h
    split at h
    · rename_i hx
      simp only [List.take_succ_cons, List.mem_cons] at h
      rcases h with rfl | h
      · exact hx
      · exact quietN_quiet l o h
    · simp at h
theorem Goes.of_wp {cd : Code} {k : List Item} {w : World} {Q : Exit → Act → World → Prop} (h : cd.wp P Q a w) (hQ : ∀ e a' w', Q e a' w' → e = .normal ∧ Goes P f R k a' w') : Goes P f R (.code cd :: k) a w := by
  intro b cs hb hk
  obtain ⟨e, a', w', hq, harr⟩ := h b k cs
  obtain ⟨rfl, hG⟩ := hQ _ _ _ hq
  obtain ⟨e2, w2, fr, hR, hC, hf, hl⟩ := hG b cs hb hk
  exact ⟨e2, w2, fr, hR, Comes.of_steps harr hC, hf, hl⟩
include hT in
theorem region_open (hm : P.follows .mixedOrders = true) {ops : Array Oper} {id : Nat} {s' : S} {k : List Item} (hord : mayOrder ops = true) (h : runQ T ops.toList ops.toList s = some s') (hn : needsOK s'.needs) (hh : Holds w0 fp c s a)
    (next : ∀ c' a', Holds w0 fp c' s' a' → Goes P f R k a' c'.w) : Goes P f R (.code (.region id ops true) :: k) a c.w := by
  obtain ⟨l, rfl⟩ : ∃ l : List Oper, ops = l.toArray := ⟨ops.toList, by simp⟩
  refine Goes.of_wp (Q := fun e a' w' => e = .normal ∧ Goes P f R k a' w') ?_ (fun e a' w' h => h)
  simp only [mayOrder, Bool.or_eq_true, Bool.and_eq_true, beq_iff_eq] at hord
  rcases hord with ⟨hall, hlex⟩ | htail
  · refine wp_region_still_lit hm hlex ?_
    have hq : ∀ o ∈ l, isQuiet o.op = true := by
      have := quietN_quiet l
      rwa [List.take_of_length_le (by have := hall; simp at this; omega)] at this
    have := runQ_still hT (ops := l.toArray) (l2 := []) (Qs := fun a' => Exit.normal = Exit.normal ∧ Goes P f R k a' { c.w with drawn := c.w.drawn + 1 }) l s s' c.drew a hq (by simpa using h) hn hh.drew (fun c' s1 a' e h1 hh1 => by
      simp only [runQ, Option.some.injEq] at h1
      subst h1
      have hw : c'.w = { c.w with drawn := c.w.drawn + 1 } := e
      rw [← hw]
      exact ⟨rfl, next c' a' hh1⟩)
    exact this
  · refine wp_region_still_tail (quietN l) hm (by simpa using htail) ?_
    have := runQ_still hT (ops := l.toArray) (l2 := l.drop (quietN l)) (Qs := fun a' => wpList P l.toArray (fun e a' w' => e = .normal ∧ Goes P f R k a' w') (l.drop (quietN l)) a' { c.w with drawn := c.w.drawn + 1 }) (l.take (quietN l)) s s' c.drew a (quietN_quiet l) (by rw [List.take_append_drop]; simpa using h) hn hh.drew (fun c' s1 a' e h1 hh1 => by
      have hw : c'.w = { c.w with drawn := c.w.drawn + 1 } := e
      rw [← hw]
      exact runQ_list hT (ops := l.toArray) _ s1 s' c' a' h1 hn hh1 (fun c2 a2 hh2 => ⟨rfl, next c2 a2 hh2⟩))
    exact this
variable {fn : Func}
theorem run_needs {res : List ResultVar} {un : Option Nat → Bool} : ∀ (n : Nat) (t : List It) (s : S), needsOK (run T res un n t s).needs → needsOK s.needs := by
  intro n
  induction n with
  | zero => intro t s h; exact h
  | succ n ih =>
    intro t s h
    cases t with
    | nil => exact h
    | cons it k =>
      cases it with
      | inBlock id => exact ih _ _ h
      | inLoop cd => exact ih _ _ h
      | ops all rest =>
        cases rest with
        | nil => exact ih _ _ h
        | cons o rest =>
          simp only [run] at h
          split at h
          · exact (by have := ih _ _ h; rwa [put_needs] at this)
          · exact (by have : needsOK (s.put _ _).needs := h; rwa [put_needs] at this)
          · exact h
          · split at h
            · exact h
            · split at h
              · split at h
                · rename_i s' hst
                  have key : needsOK (s'.put o.dst (.v undef)).needs := by
                    split at h
                    · exact ih _ _ h
                    · exact h
                  rw [put_needs, store_needs hst] at key
                  exact key
                · exact h
              · exact h
            · split at h
              · rename_i v s' hop
                have key : needsOK ((s'.more s.needs).put o.dst v).needs := by
                  split at h
                  · exact ih _ _ h
                  · exact h
                rw [put_needs] at key
                exact needsOK_tail _ _ key
              · exact h
      | code cd =>
        simp only [run] at h
        split at h
        · exact ih _ _ h
        · exact ih _ _ h
        · exact ih _ _ h
        · exact ih _ _ h
        · split at h
          · exact ih _ _ h
          · exact h
        · split at h
          · exact ih _ _ h
          · exact h
        · split at h <;> exact h
        · split at h
          · exact ih _ _ h
          · exact ih _ _ h
          · exact h
          · exact h
        · split at h
          · split at h
            · rename_i s1 hq
              split at hq
              · split at hq
                · exact runQ_needs _ _ _ hq (ih _ _ h)
                · cases hq
              · cases hq
            · split at h
              · exact ih _ _ h
              · exact h
          · exact ih _ _ h
        · exact h
      | openR m ops listed rds =>
        cases m with
        | zero =>
          simp only [run] at h
          split at h
          · exact ih _ _ h
          · exact h
        | succ m =>
          simp only [run] at h
          split at h
          · exact ih _ _ h
          · split at h
            · split at h
              · exact h
              · split at h
                · have := ih _ _ h; rwa [put_needs] at this
                · have : needsOK (s.put _ _).needs := h
                  rwa [put_needs] at this
                · exact h
                · split at h
                  · have := ih _ _ h
                    rw [put_needs] at this
                    exact needsOK_tail _ _ this
                  · exact h
            · split at h
              · exact ih _ _ h
              · exact h
      | pickR m ops listed j rds =>
        simp only [run] at h
        split at h
        · exact h
        · split at h
          · have := ih _ _ h; rwa [put_needs] at this
          · have : needsOK (s.put _ _).needs := h
            rwa [put_needs] at this
          · exact h
          · split at h
            · split at h
              · exact h
              · exact h
            · split at h
              · split at h
                · rename_i s' hst
                  have := ih _ _ h
                  rw [put_needs, store_needs hst] at this
                  exact this
                · exact h
              · split at h
                · split at h
                  · rename_i s' hst
                    have := ih _ _ h
                    rw [put_needs, store_needs hst] at this
                    exact this
                  · exact h
                · exact h
            · split at h
              · split at h
                · have := ih _ _ h
                  rw [put_needs] at this
                  exact needsOK_tail _ _ this
                · exact h
              · split at h
                · split at h
                  · have := ih _ _ h
                    rw [put_needs] at this
                    exact needsOK_tail _ _ this
                  · exact h
                · exact h

theorem args_RVs (hh : Holds w0 fp c s a) : ∀ l : List Operand, RVs c (l.map (ev s)) (l.map a.eval)
  | [] => .nil
  | x :: l => .cons (RV.ev hh.tmps x) (args_RVs hh l)
theorem endQ_panic {l : List Item} : ∀ ch a w, ¬ endQ P f R l (.panic ch) a w := fun _ _ _ h => by cases h.1

include hT in
theorem open_step {K : List It} {un : Option Nat → Bool} {n : Nat} (ih0 : ∀ (t : List It) (s : S), needsOK (run T fn.results.toList un n t s).needs → (run T fn.results.toList un n t s).good P f w0 fp R K → GoesS P f w0 fp R (t ++ K) s)
    (ih : ∀ (t : List It) (s : S), needsOK (run T fn.results.toList un n t s).needs → (run T fn.results.toList un n t s).good P f w0 fp R K → ∀ (todo : List Item) (c : C) (a : Act), todo.map slim = t ++ K → Holds w0 fp c s a → Goes P f R todo a c.w)
    {m : Nat} {ops : Array Oper} {listed : Array Bool} {rds : List Rt} {k : List It} {l : List Item} (hl : l.map slim = k ++ K) (hn : needsOK (run T fn.results.toList un (n + 1) (.openR m ops listed rds :: k) s).needs)
    (hg : (run T fn.results.toList un (n + 1) (.openR m ops listed rds :: k) s).good P f w0 fp R K) (hh : Holds w0 fp c s a) : GoesP P f R c s (.open_ m ops listed rds l) a := by
  intro hsel
  cases m with
  | zero =>
    simp only [run] at hn hg
    split at hg
    · rename_i hr
      simp only [hr, if_true] at hn
      exact ⟨by simpa using hr, rfl, ih _ _ hn hg l c a hl hh⟩
    · exact GoesP.of_bare (hg (.open_ 0 ops listed rds l) c a (by simp [Pos.its, hl]) hh.bare) hsel
  | succ m =>
    simp only [run] at hn hg
    split at hg
    · rename_i hr
      simp only [hr] at hn
      exact ⟨fun _ => ⟨rfl, ih _ _ hn hg l c a hl hh⟩, by rw [hr]; intro i hi; cases hi⟩
    · rename_i j js hr
      simp only [hr] at hn
      split at hg
      · rename_i i hfind
        simp only [hfind] at hn
        have hmem : i ∈ Region.ready .any ops listed := by rw [hr]; exact List.mem_of_find?_eq_some hfind
        have htake : takes ops listed i = true := List.find?_some hfind
        split at hg
        · exact GoesP.of_bare (hg (.open_ (m + 1) ops listed rds l) c a (by simp [Pos.its, hl]) hh.bare) hsel
        · rename_i o ho
          simp only [ho] at hn
          replace htake : isQuiet o.op = true ∧ Region.free .any ops listed i = true ∧ closedB ops listed = true := by
            simp only [takes, ho] at htake
            split at htake
            · split at htake
              · exact ⟨‹_›, htake, ‹_›⟩
              · cases htake
            · cases htake
          obtain ⟨w1, w2, w3⟩ := wanted_sound hh.tmps (ops := ops) (o := o)
          cases hw : wanted ops.toList s o with
          | unknown =>
            rw [hw] at hg
            exact GoesP.of_bare (hg (.open_ (m + 1) ops listed rds l) c a (by simp [Pos.its, hl]) hh.bare) hsel
          | by_ b d =>
            rw [hw] at hg
            have hb := w3 b d hw
            cases hbb : b with
            | true => exact hg.1 hbb (.open_ (m + 1) ops listed rds l) c a (by simp [Pos.its, hl]) ((hh.know hb hbb).bare) hsel
            | false => exact hg.2 hbb (.open_ (m + 1) ops listed rds l) c a (by simp [Pos.its, hl]) ((hh.know hb hbb).bare) hsel
          | no =>
            rw [hw] at hn hg
            refine wpE_first (B := fun _ _ => False) ho hsel endQ_panic m _ listed a c.w (closedB_spec htake.2.2) (Region.free_spec ho htake.2.1) hmem (v := undef) (.inr ⟨w2 hw, rfl⟩) ?_
            have := ih0 _ _ hn hg (.open_ m ops (listed.setIfInBounds i true) rds l) c _ (by simp [Pos.its, hl]) (hh.put (v := .v undef) (u := undef) (by simp only [RV]) o.dst) hsel
            rw [RF_put] at this
            exact wpE_mono m (fun _ _ h => h.elim id (fun h => h.elim)) _ _ _ this
          | yes =>
            rw [hw] at hn hg
            simp only at hn hg
            split at hg
            · rename_i v s' hop
              simp only [hop] at hn
              have hneeds := run_needs _ _ _ hn
              rw [put_needs] at hneeds
              obtain ⟨u, c', hrun, hh', hv, hq, _⟩ := op_sound hT hh.bare hop (needsOK_left _ _ hneeds)
              obtain ⟨rfl, ⟨e1, e2, e3⟩, hall⟩ := hq htake.1
              refine wpE_first (B := RF c' s.bare (readsO s.bare o.op)) ho hsel endQ_panic m _ listed a c'.w (closedB_spec htake.2.2) (Region.free_spec ho htake.2.1) hmem (v := u) (.inl ⟨w1 hw, hall⟩) ?_
              have := ih0 _ _ hn hg (.open_ m ops (listed.setIfInBounds i true) (readsO s.bare o.op ++ rds) l) c' _ (by simp [Pos.its, hl]) ((hh'.needs _).put hv o.dst) hsel
              rw [RF_put, show RF c' (s'.more s.needs) (readsO s.bare o.op ++ rds) = RF c' s (readsO s.bare o.op ++ rds) from RF_same e1 e2 e3 _] at this
              refine wpE_mono m (fun k o h => ?_) _ _ _ this
              rcases h with h | h
              · exact h.imp id fun ⟨q, hq, hf⟩ => ⟨q, by simp [hq], hf⟩
              · exact h.imp id fun ⟨q, hq, hf⟩ => ⟨q, by simp [hq], hf⟩
            · exact GoesP.of_bare (hg (.open_ (m + 1) ops listed rds l) c a (by simp [Pos.its, hl]) hh.bare) hsel
      · rename_i hfind
        simp only [hfind] at hn
        split at hg
        · have hG := ih0 _ _ hn hg (.pick m ops listed j rds l) c a (by simp [Pos.its, hl]) hh hsel
          refine ⟨fun h0 => (by rw [hr] at h0; cases h0), fun i hi => ?_⟩
          rw [hr] at hi
          obtain rfl : i = j := by simpa using hi
          exact hG
        · rename_i hjs
          refine ⟨fun h0 => (by rw [hr] at h0; cases h0), fun i hi => ?_⟩
          rw [hr] at hi
          exact GoesP.of_bare (hg _ (List.mem_map.2 ⟨i, hi, rfl⟩) (.pick m ops listed i rds l) c a (by simp [Pos.its, hl]) hh.bare) hsel

include hT in
theorem pick_step {K : List It} {un : Option Nat → Bool} {n : Nat} (ih0 : ∀ (t : List It) (s : S), needsOK (run T fn.results.toList un n t s).needs → (run T fn.results.toList un n t s).good P f w0 fp R K → GoesS P f w0 fp R (t ++ K) s)
    {m : Nat} {ops : Array Oper} {listed : Array Bool} {j : Nat} {rds : List Rt} {k : List It} {l : List Item} (hl : l.map slim = k ++ K) (hn : needsOK (run T fn.results.toList un (n + 1) (.pickR m ops listed j rds :: k) s).needs)
    (hg : (run T fn.results.toList un (n + 1) (.pickR m ops listed j rds :: k) s).good P f w0 fp R K) (hh : Holds w0 fp c s a) : GoesP P f R c s (.pick m ops listed j rds l) a := by
  intro hsel
  simp only [run] at hn hg
  split at hg
  · exact GoesP.of_bare (hg (.pick m ops listed j rds l) c a (by simp [Pos.its, hl]) hh.bare) hsel
  rename_i o ho
  simp only [ho] at hn
  obtain ⟨w1, w2, w3⟩ := wanted_sound hh.tmps (ops := ops) (o := o)
  cases hw : wanted ops.toList s o with
  | unknown =>
    rw [hw] at hg
    exact GoesP.of_bare (hg (.pick m ops listed j rds l) c a (by simp [Pos.its, hl]) hh.bare) hsel
  | by_ b d =>
    rw [hw] at hg
    have hb := w3 b d hw
    cases hbb : b with
    | true => exact hg.1 hbb (.pick m ops listed j rds l) c a (by simp [Pos.its, hl]) ((hh.know hb hbb).bare) hsel
    | false => exact hg.2 hbb (.pick m ops listed j rds l) c a (by simp [Pos.its, hl]) ((hh.know hb hbb).bare) hsel
  | no =>
    rw [hw] at hn hg
    unfold wpOp
    simp only [ho, w2 hw, Bool.false_eq_true, if_false]
    have := ih0 _ _ hn hg (.open_ m ops (listed.setIfInBounds j true) rds l) c _ (by simp [Pos.its, hl]) (hh.put (v := .v undef) (u := undef) (by simp only [RV]) o.dst) hsel
    rw [RF_put] at this
    exact .inl ⟨.refl _ _, this⟩
  | yes =>
    rw [hw] at hn hg
    simp only at hn hg
    have hwt := w1 hw
    unfold wpOp
    simp only [ho, hwt, if_true]
    have none_ : ∀ {c' : C} {s' : S} {a' : Act}, lastOp ops j = true → wpE P ops (endQ P f R l) m (RF c' s' []) (listed.setIfInBounds j true) a' c'.w → pickK P f R m ops listed j (RF c s rds) l c.w a' c'.w := fun hla h => .inr ⟨hla, wpE_mono m (fun _ _ h => h.elim) _ _ _ h⟩
    have some_ : ∀ {c' : C} {s' : S} {a' : Act}, KeepR c s c' s' rds → wpE P ops (endQ P f R l) m (RF c' s' rds) (listed.setIfInBounds j true) a' c'.w → pickK P f R m ops listed j (RF c s rds) l c.w a' c'.w := fun hk h => .inl ⟨hk.agree, wpE_mono m hk.sub _ _ _ h⟩
    have back : GoesP P f R c s (.pick m ops listed j rds l) a → o.wp P a c.w (pickK P f R m ops listed j (RF c s rds) l c.w) (endQ P f R l) ∨ o.asks P a c.w ∧ LetsOut (endQ P f R l) := fun h => by
      have := h hsel
      unfold wpOp at this
      simpa only [ho, hwt, if_true] using this
    split at hg
    · rename_i g args argTypes hoc
      rw [hoc] at hn
      have fin : ∀ (ask : Option (List Rt)) (rds' : List Rt), CallGood P f w0 fp R g (args.toList.map (ev s)) o.dst ask (.openR m ops (listed.setIfInBounds j true) rds' :: k ++ K) s.bare →
          (∀ (c' : C) (s' : S) (a' : Act), (∀ l, ask = some l → KeepR c s c' s' l) → wpE P ops (endQ P f R l) m (RF c' s' rds') (listed.setIfInBounds j true) a' c'.w → pickK P f R m ops listed j (RF c s rds) l c.w a' c'.w) →
          o.wp P a c.w (pickK P f R m ops listed j (RF c s rds) l c.w) (endQ P f R l) := fun ask rds' hg hfin => by
        obtain ⟨hcall, hg⟩ := hg
        have hrun : (execOp a.eval o).run P c.w = .ok (.enter g (args.toList.map a.eval).toArray) c.w := by
          have := hcall (args.toList.map a.eval).toArray c.w
          have hmapa : (args.map a.eval) = (args.toList.map a.eval).toArray := by apply Array.ext'; simp
          simp only [execOp, hoc, resolve, Act.eval, Deferred.ofValue, Sem.run_bind, Sem.run_pure, Result.andThen_ok, invoke, Array.append_empty, Array.empty_append, hmapa]
          exact this
        unfold Oper.wp
        rw [hrun, Oper.upon_enter]
        refine (hg c a _ hh.bare (args_RVs hh _)).mono ?_
        rintro e w' ⟨u, rfl, c', s', v, rfl, hx, hh', hv, hG⟩
        have := hG (.open_ m ops (listed.setIfInBounds j true) rds' l) c' _ (by simp [Pos.its, hl]) (hh'.put hv o.dst) hsel
        rw [RF_put] at this
        exact hfin c' s' _ (fun l hl => ⟨(hx l hl).agree, (hx l hl).sub⟩) this
      split at hg
      · rename_i hla
        exact .inl (fin none [] hg (fun c' s' a' _ h => none_ hla h))
      · exact .inl (fin (some rds) rds hg (fun c' s' a' hk h => some_ (hk rds rfl) h))
    · rename_i t x y hos
      rw [hos] at hn
      simp only at hn
      split at hg
      · rename_i hok
        rw [if_pos hok] at hn
        simp only [Bool.and_eq_true] at hok
        split at hg
        · rename_i s' hst
          rw [hst] at hn
          obtain ⟨c', hr, hh', _⟩ := op_skip hT hh hos hok.2 hst
          refine .inl ?_
          unfold Oper.wp
          rw [hr, Oper.upon_skip]
          have := ih0 _ _ hn hg (.open_ m ops (listed.setIfInBounds j true) [] l) c' _ (by simp [Pos.its, hl]) (hh'.put (v := .v undef) (u := undef) (by simp only [RV]) o.dst) hsel
          exact none_ hok.1 this
        · exact back (GoesP.of_bare (hg (.pick m ops listed j rds l) c a (by simp [Pos.its, hl]) hh.bare))
      · rename_i hnok
        rw [if_neg hnok] at hn
        split at hg
        · rename_i hok
          rw [if_pos hok] at hn
          simp only [Bool.and_eq_true] at hok
          split at hg
          · rename_i s' hst
            rw [hst] at hn
            obtain ⟨c', hr, hh', hstep⟩ := op_skip hT hh hos hok.1 hst
            refine .inl ?_
            unfold Oper.wp
            rw [hr, Oper.upon_skip]
            have := ih0 _ _ hn hg (.open_ m ops (listed.setIfInBounds j true) rds l) c' _ (by simp [Pos.its, hl]) (hh'.put (v := .v undef) (u := undef) (by simp only [RV]) o.dst) hsel
            rw [RF_put] at this
            refine some_ (hstep.keepR fun q hq hq' => ?_) this
            have hap := List.all_eq_true.1 hok.2 q hq
            simp only [Bool.not_eq_true', List.contains_eq_mem, decide_eq_false_iff_not] at hap
            exact hap hq'
          · exact back (GoesP.of_bare (hg (.pick m ops listed j rds l) c a (by simp [Pos.its, hl]) hh.bare))
        · exact back (GoesP.of_bare (hg (.pick m ops listed j rds l) c a (by simp [Pos.its, hl]) hh.bare))
    · rename_i hno1 hno2
      have step : ∀ (rds' : List Rt) (v : V) (s' : S), op T s.bare o.op = .ok v s' → needsOK (run T fn.results.toList un n (.openR m ops (listed.setIfInBounds j true) rds' :: k) ((s'.more s.needs).put o.dst v)).needs →
          (run T fn.results.toList un n (.openR m ops (listed.setIfInBounds j true) rds' :: k) ((s'.more s.needs).put o.dst v)).good P f w0 fp R K →
          (∀ (c' : C) (a' : Act), StepOK c s c' (s'.more s.needs) (touchO s.bare o.op) → wpE P ops (endQ P f R l) m (RF c' (s'.more s.needs) rds') (listed.setIfInBounds j true) a' c'.w → pickK P f R m ops listed j (RF c s rds) l c.w a' c'.w) →
          o.wp P a c.w (pickK P f R m ops listed j (RF c s rds) l c.w) (endQ P f R l) := fun rds' v s' hop hn' hg hfin => by
        have hneeds := run_needs _ _ _ hn'
        rw [put_needs] at hneeds
        obtain ⟨u, c', hrun, hh', hv, hq, hst⟩ := op_sound hT hh.bare hop (needsOK_left _ _ hneeds)
        unfold Oper.wp
        rw [hrun, Oper.upon_value]
        have := ih0 _ _ hn' hg (.open_ m ops (listed.setIfInBounds j true) rds' l) c' _ (by simp [Pos.its, hl]) ((hh'.needs _).put hv o.dst) hsel
        rw [RF_put] at this
        exact hfin c' _ ⟨hst.F, hst.agree, hst.foot⟩ this
      split at hg
      · rename_i hla
        split at hg
        · rename_i v s' hop
          refine .inl (step [] v s' hop ?_ hg (fun c' a' _ h => none_ hla h))
          have := hn
          split at this
          · rename_i q1 q2 q3 hoc; exact absurd hoc (hno1 _ _ _)
          · rename_i q1 q2 q3 hoc; exact absurd hoc (hno2 _ _ _)
          · rw [if_pos hla, hop] at this; exact this
        · exact back (GoesP.of_bare (hg (.pick m ops listed j rds l) c a (by simp [Pos.its, hl]) hh.bare))
      · rename_i hla
        split at hg
        · rename_i hap
          split at hg
          · rename_i v s' hop
            refine .inl (step rds v s' hop ?_ hg (fun c' a' hst h => some_ (hst.keepR fun q hq hq' => ?_) h))
            · have := hn
              split at this
              · rename_i q1 q2 q3 hoc; exact absurd hoc (hno1 _ _ _)
              · rename_i q1 q2 q3 hoc; exact absurd hoc (hno2 _ _ _)
              · rw [if_neg hla, if_pos hap, hop] at this; exact this
            · have := List.all_eq_true.1 hap q hq
              simp only [Bool.not_eq_true', List.contains_eq_mem, decide_eq_false_iff_not] at this
              exact this hq'
          · exact back (GoesP.of_bare (hg (.pick m ops listed j rds l) c a (by simp [Pos.its, hl]) hh.bare))
        · exact back (GoesP.of_bare (hg (.pick m ops listed j rds l) c a (by simp [Pos.its, hl]) hh.bare))

include hT in
theorem run_sound {K : List It} (hm : P.follows .mixedOrders = true) (hfn : P.funcs[f]? = some fn) {un : Option Nat → Bool} : ∀ (n : Nat) (t : List It) (s : S), needsOK (run T fn.results.toList un n t s).needs → (run T fn.results.toList un n t s).good P f w0 fp R K → GoesS P f w0 fp R (t ++ K) s := by
  intro n
  induction n with
  | zero => intro t s _ hg; exact GoesS.of_bare hg
  | succ n ih0 =>
    intro t s hn hg p c a ht hh
    have ih : ∀ (t : List It) (s : S), needsOK (run T fn.results.toList un n t s).needs → (run T fn.results.toList un n t s).good P f w0 fp R K → ∀ (todo : List Item) (c : C) (a : Act), todo.map slim = t ++ K → Holds w0 fp c s a → Goes P f R todo a c.w := fun t s h1 h2 todo c a ht hh => ih0 t s h1 h2 (.items todo) c a ht hh
    cases t with
    | nil =>
      simp only [run, Out.good] at hg
      exact hg p c a ht hh.bare
    | cons it k =>
    cases p with
    | open_ m ops listed rds l =>
      simp only [Pos.its, List.cons_append, List.cons.injEq] at ht
      obtain ⟨rfl, hl⟩ := ht
      exact open_step hT ih0 ih hl hn hg hh
    | pick m ops listed j rds l =>
      simp only [Pos.its, List.cons_append, List.cons.injEq] at ht
      obtain ⟨rfl, hl⟩ := ht
      exact pick_step hT ih0 hl hn hg hh
    | items todo =>
      show Goes P f R todo a c.w
      obtain ⟨i0, todo', rfl, hi0, hk⟩ : ∃ i0 todo', todo = i0 :: todo' ∧ slim i0 = it ∧ todo'.map slim = k ++ K := by
        cases todo with
        | nil => simp [Pos.its] at ht
        | cons i0 todo' => simp only [Pos.its, List.map_cons, List.cons_append, List.cons.injEq] at ht; exact ⟨i0, todo', rfl, ht.1, ht.2⟩
      cases it with
      | openR m ops listed rds => cases i0 <;> simp [slim] at hi0
      | pickR m ops listed j rds => cases i0 <;> simp [slim] at hi0
      | inBlock id =>
        obtain rfl := slim_inBlock hi0
        simp only [run] at hn hg
        exact Goes.next (fun b cs => step_inBlock) (ih k s hn hg todo' c a hk hh)
      | inLoop cd =>
        obtain rfl := slim_inLoop hi0
        simp only [run] at hn hg
        exact Goes.next (fun b cs => step_inLoop) (ih _ s hn hg (.code cd :: .inLoop cd :: todo') c a (by simp [slim, hk]) hh)
      | ops all rest =>
        obtain ⟨ops, is, rfl, rfl, hrest⟩ := slim_ops hi0
        cases rest with
        | nil =>
          simp only [run] at hn hg
          exact ops_end hrest (ih k s hn hg todo' c a hk hh)
        | cons o rest =>
          obtain ⟨i, is', ho, hrest', hgo⟩ := ops_next (P := P) (f := f) (R := R) (a := a) (k := todo') (w := c.w) hrest
          refine hgo ?_
          simp only [run] at hn hg
          obtain ⟨w1, w2, w3⟩ := wanted_sound hh.tmps (ops := ops) (o := o)
          have hmap : (Item.inRegion ops is' :: todo').map slim = (.ops ops.toList rest :: k) ++ K := by simp [slim, hk, hrest']
          cases hw : wanted ops.toList s o with
          | unknown =>
            rw [hw] at hg
            exact hg (.items _) _ _ (by simp [Pos.its, slim, hk, hrest', ho]) hh.bare
          | no =>
            rw [hw] at hn hg
            exact Goes.opSkip ho (w2 hw) (ih _ _ hn hg _ c _ hmap (hh.put (v := .v undef) (u := undef) (by simp only [RV]) o.dst))
          | by_ b d =>
            rw [hw] at hn hg
            have hb := w3 b d hw
            have hmap2 : (Item.inRegion ops (i :: is') :: todo').map slim = (.ops ops.toList (o :: rest) :: k) ++ K := by simp [slim, hk, hrest', ho]
            obtain ⟨u, hu, hr⟩ := hh.tmps.get d hb
            cases hbb : b with
            | true => exact hg.1 hbb (.items _) c a hmap2 ((hh.know hb hbb).bare)
            | false => exact hg.2 hbb (.items _) c a hmap2 ((hh.know hb hbb).bare)
          | yes =>
            rw [hw] at hn hg
            simp only at hn hg
            have hwt := w1 hw
            split at hg
            · -- a call
              rename_i g args argTypes hoc
              rw [hoc] at hn
              obtain ⟨hcall, hg⟩ := hg
              have hus : RVs c (args.toList.map (ev s)) (args.toList.map a.eval) := by
                clear hn hg hoc
                generalize args.toList = l
                induction l with
                | nil => exact .nil
                | cons x l ihl => exact .cons (RV.ev hh.tmps x) ihl
              refine Goes.opCall ho hwt (g := g) (args := (args.toList.map a.eval).toArray) (w' := c.w) ?_ ((hg c a _ hh.bare hus).mono ?_)
              · have := hcall (args.toList.map a.eval).toArray c.w
                have hmapa : (args.map a.eval) = (args.toList.map a.eval).toArray := by apply Array.ext'; simp
                simp only [execOp, hoc, resolve, Act.eval, Deferred.ofValue, Sem.run_bind, Sem.run_pure, Result.andThen_ok, invoke, Array.append_empty, Array.empty_append, hmapa]
                exact this
              · rintro e w' ⟨u, rfl, c', s', v, rfl, _, hh', hv, hG⟩
                exact ⟨u, rfl, hG (.items _) c' _ hmap (hh'.put hv o.dst)⟩
            · -- a store
              rename_i t x y hos
              rw [hos] at hn
              simp only at hn
              split at hg
              · rename_i hok
                rw [if_pos hok] at hn
                split at hg
                · rename_i s' hst
                  rw [hst] at hn
                  obtain ⟨c', hr, hh', _⟩ := op_skip hT hh hos hok hst
                  have hput := hh'.put (v := .v undef) (u := undef) (by simp only [RV]) o.dst
                  refine Goes.opDone ho hwt hr ?_
                  simp only at hn
                  split at hg
                  · rename_i hsay
                    rw [hsay] at hn
                    exact ih _ _ hn hg _ c' _ hmap hput
                  · exact hg (.items _) c' _ hmap hput.bare
                · exact hg (.items _) _ _ (by simp [Pos.its, slim, hk, hrest', ho]) hh.bare
              · exact hg (.items _) _ _ (by simp [Pos.its, slim, hk, hrest', ho]) hh.bare
            · -- any other
              rename_i hno1 hno2
              split at hg
              · rename_i v s' hop
                have hop' : op T s.bare o.op = .ok v s' := hop
                have hn' : needsOK (match says s o v with
                    | [] => run T fn.results.toList un n (.ops ops.toList rest :: k) ((s'.more s.needs).put o.dst v)
                    | w :: ws => .say (w :: ws) (.ops ops.toList rest :: k) ((s'.more s.needs).put o.dst v)).needs := by
                  have := hn
                  split at this
                  · rename_i q1 q2 q3 hoc; exact absurd hoc (hno1 _ _ _)
                  · rename_i q1 q2 q3 hoc; exact absurd hoc (hno2 _ _ _)
                  · rw [hop] at this; exact this
                have hneeds : needsOK ((s'.more s.needs).put o.dst v).needs := by
                  have := hn'
                  split at this
                  · exact run_needs _ _ _ this
                  · exact this
                rw [put_needs] at hneeds
                obtain ⟨u, c', hr, hh', hv, _, _⟩ := op_sound hT hh.bare hop' (needsOK_left _ _ hneeds)
                have hput := (hh'.needs (s'.needs ++ s.needs)).put hv o.dst
                refine Goes.opValue ho hwt hr ?_
                split at hg
                · rename_i hsay
                  rw [hsay] at hn'
                  exact ih _ _ hn' hg _ c' _ hmap hput
                · exact hg (.items _) c' _ hmap hput.bare
              · exact hg (.items _) _ _ (by simp [Pos.its, slim, hk, hrest', ho]) hh.bare
      | code cd =>
        rcases slim_code hi0 with rfl | rfl
        case inr => simp only [run] at hg; exact hg (.items _) _ _ (by simp [Pos.its, hi0, hk]) hh.bare
        simp only [run] at hn hg
        have hmap0 : (Item.code cd :: todo').map slim = (.code cd :: k) ++ K := by simp [slim, hk]
        split at hg
        · exact Goes.next (fun b cs => step_skip) (ih _ _ hn hg _ c a hk hh)
        · exact Goes.next (fun b cs => step_label) (ih _ _ hn hg _ c a hk hh)
        · rename_i x y
          exact Goes.next (fun b cs => step_seq) (ih _ _ hn hg (.code x :: .code y :: todo') c a (by simp [Pos.its, slim, hk]) hh)
        · rename_i id x
          exact Goes.next (fun b cs => step_block) (ih _ _ hn hg (.code x :: .inBlock id :: todo') c a (by simp [Pos.its, slim, hk]) hh)
        · rename_i x
          split at hg
          · rename_i hu
            simp only [hu, if_true] at hn
            exact Goes.next (fun b cs => step_loop) (ih _ _ hn hg (.code x :: .inLoop x :: todo') c a (by simp [Pos.its, slim, hk]) hh)
          · exact hg (.items _) _ _ hmap0 hh.bare
        · rename_i id
          split at hg
          · rename_i k' hk'
            simp only [hk'] at hn
            have hk2 : exitIt id (todo'.map slim) = some (k' ++ K) := by rw [hk, exitIt_append, hk']
            obtain ⟨k2, h1, h2⟩ := exitIt_sound hk2
            exact Goes.next (fun b cs => step_exit h1) (ih _ _ hn hg k2 c a h2 hh)
          · rename_i hk'
            obtain ⟨K', hK, hG⟩ := hg
            have hk2 : exitIt id (todo'.map slim) = some K' := by rw [hk, exitIt_append, hk']; exact hK
            obtain ⟨k2, h1, h2⟩ := exitIt_sound hk2
            exact Goes.next (fun b cs => step_exit h1) (hG (.items k2) c a h2 hh.bare)
        · split at hg
          · rename_i vs hr
            obtain ⟨us, h1, h2⟩ := results_sound hT hh hr
            exact Goes.ret hfn hh.defers h1 (hg c a us hh.bare h2)
          · exact hg (.items _) _ _ hmap0 hh.bare
        · rename_i cnd x y
          have hc := RV.ev (c := c) (s := s) (a := a) hh.tmps cnd
          split at hg
          · rename_i he
            simp only [he] at hn
            rw [he] at hc
            simp only [RV, Bval_l] at hc
            exact Goes.next (fun b cs => step_cond hc) (ih _ _ hn hg (.code x :: todo') c a (by simp [Pos.its, slim, hk]) hh)
          · rename_i he
            simp only [he] at hn
            rw [he] at hc
            simp only [RV, Bval_l] at hc
            exact Goes.next (fun b cs => step_cond hc) (ih _ _ hn hg (.code y :: todo') c a (by simp [Pos.its, slim, hk]) hh)
          · rename_i b he
            rw [he] at hc
            simp only [RV, Bval_s] at hc
            cases hb : b with
            | true =>
              rw [hb] at hc
              exact Goes.next (fun b cs => step_cond hc) (hg.1 hb (.items (.code x :: todo')) c a (by simp [Pos.its, slim, hk]) hh.bare)
            | false =>
              rw [hb] at hc
              exact Goes.next (fun b cs => step_cond hc) (hg.2 hb (.items (.code y :: todo')) c a (by simp [Pos.its, slim, hk]) hh.bare)
          · exact hg (.items _) _ _ hmap0 hh.bare
        · rename_i id ops draw
          split at hg
          · rename_i hdr
            subst hdr
            simp only [if_true] at hn
            split at hg
            · rename_i s1 hq
              simp only [hq] at hn
              split at hq
              case isFalse => cases hq
              split at hq
              · rename_i hord
                exact region_open hT hm hord hq (run_needs _ _ _ hn) hh (fun c' a' hh' => ih _ _ hn hg todo' c' a' hk hh')
              · cases hq
            · rename_i hq
              simp only [hq] at hn
              split at hg
              · rename_i hsel
                simp only [hsel, if_true] at hn
                have hG := ih0 _ _ hn hg (.open_ ops.size ops (Array.replicate ops.size false) [] todo') c.drew a (by simp [Pos.its, hk]) hh.drew hsel
                exact Goes.of_wp (Q := endQ P f R todo') (wp_region_any hm (wpAny_of_E _ _ _ _ _ hG)) (fun e a' w' h => h)
              · exact hg (.items _) _ _ hmap0 hh.bare
          · rename_i hdr
            have hdr' : draw = false := by simpa using hdr
            subst hdr'
            simp only [Bool.false_eq_true, if_false] at hn
            refine Goes.next (fun b cs => step_region) (ih _ _ hn hg (.inRegion ops (List.range ops.size) :: todo') c a ?_ hh)
            rw [List.map_cons, hk, slim, range_ops]
            rfl
        · exact hg (.items _) _ _ hmap0 hh.bare
end
end Go.Fx
