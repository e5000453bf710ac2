/- The table of types; contracts by functions' arguments; laws. -/
import Derived.Test.YtplefbcgpbdkfaaDoorFq
import Derived.Below
import Derived.OpenShut
import Derived.ChangeOld
set_option linter.all false
namespace Go.Fx
open Go Go.RowKit

/-! ### The table of types -/
def noTI : TI := ⟨.other, 0, 0, .tuple #[], false, [], none, false, none⟩
def lookT : List (Nat × TI) → TypeId → TI
  | [], _ => noTI
  | (k, v) :: r, t => if t == k then v else lookT r t
def TabRow (P : Program) (p : Nat × TI) : Prop := descOK P p.1 p.2.d ∧ (p.2.ok = true → TIOK P p.2 p.1)
theorem lookT_ok {P : Program} : ∀ (l : List (Nat × TI)), (∀ p ∈ l, TabRow P p) → TabOK P (lookT l)
  | [], _ => ⟨fun t => trivial, fun t h => by cases h⟩
  | (k, v) :: r, h => by
    have ih := lookT_ok r (fun p hp => h p (by simp [hp]))
    have h0 := h (k, v) (by simp)
    refine ⟨fun t => ?_, fun t => ?_⟩
    · unfold lookT
      split
      · rename_i e
        simp only [beq_iff_eq] at e
        subst e
        exact h0.1
      · exact ih.desc t
    · unfold lookT
      split
      · rename_i e
        simp only [beq_iff_eq] at e
        subst e
        exact h0.2
      · exact ih.ok t
theorem TIOK.mk' {P : Program} {ti : TI} {t : TypeId} (info : (P.info? t).map (fun i => (i.zero, i.size, i.bytes)) = some (some ti.zero, ti.size, ti.bytes)) (zsz : ti.zero.cells.size = ti.size) (agg : (P.underlying t).map aggD = some (aggTy ti.d))
    (one : aggTy ti.d = false → ti.size = 1) (eq : ti.eqk ≠ [] → eqB P 6 t = some ti.eqk ∧ P.eqGuardType P.depth t = false)
    (tp : match ti.tp with | none => True | some q => q.size = ti.size ∧ q.isP = aggTy ti.d ∧ ti.zero.cells.toList = q.zc ∧ (ti.eqk ≠ [] → q.kds = some ti.eqk)) : TIOK P ti t :=
  ⟨info, zsz, agg, one, eq, fun q hq => by rw [hq] at tp; exact tp⟩

/-! ### Contracts -/
theorem Keeps.ext {w w' : World} {D : Foot} (h : Keeps w w' D) (hD : ∀ k o, ¬ D k o) : Ext w w' := by
  refine ⟨h.size, fun k hk => ?_⟩
  have hs := fun o => h.spot k o hk (hD k o)
  obtain ⟨ob, hob⟩ : ∃ ob, w.heap[k]? = some ob := ⟨w.heap[k], Array.getElem?_eq_getElem hk⟩
  obtain ⟨ob', hob'⟩ : ∃ ob, w'.heap[k]? = some ob := ⟨w'.heap[k]'(Nat.lt_of_lt_of_le hk h.size), Array.getElem?_eq_getElem _⟩
  rw [hob, hob']
  unfold Fx.spot at hs
  rw [hob, hob'] at hs
  cases ob with
  | cells cs e f =>
    cases ob' with
    | cells cs' e' f' =>
      have h0 := hs 0
      simp only [Option.some.injEq, Prod.mk.injEq, Obj.cells.injEq] at h0
      obtain ⟨⟨_, rfl, rfl⟩, h4⟩ := h0
      have : cs' = cs := by
        apply Array.ext h4
        intro i h1 h2
        have := hs i
        simp only [Option.some.injEq, Prod.mk.injEq, Obj.cells.injEq, and_true] at this
        have e1 : (cs.extract i (i + 1))[0]? = cs[i]? := by simp [Array.getElem?_extract]; omega
        have e2 : (cs'.extract i (i + 1))[0]? = cs'[i]? := by simp [Array.getElem?_extract]; omega
        have e3 : cs'[i]? = cs[i]? := by rw [← e2, this.1, e1]
        rw [Array.getElem?_eq_getElem h1, Array.getElem?_eq_getElem h2] at e3
        exact Option.some.inj e3
      rw [this]
    | _ => have := hs 0; simp at this
  | _ =>
    cases ob' with
    | cells cs' e' f' => have := hs 0; simp at this
    | _ => have := hs 0; simpa using this
abbrev FnX (α : Type) : List Tp → Type
  | [] => α
  | t :: ts => t.T → FnX α ts
def appX {α : Type} (z : α) : (ts : List Tp) → FnX α ts → List U → α
  | [], p, _ => p
  | t :: ts, f, u :: us => appX z ts (f (u.as t)) us
  | _ :: _, _, [] => z
def constX {α : Type} (a : α) : (ts : List Tp) → FnX α ts
  | [] => a
  | _ :: ts => fun _ => constX a ts
abbrev kns (args : List Sh) (vars : List VP) (rows : List RP) (objs : List (OK × Tp) := []) : List Tp := Sh.kns args ++ (VP.kns vars ++ (RP.kns rows ++ OP.kns objs))
def mkCon (args : List Sh) (vars : List VP) (rows : List RP) (pre : FnX Prop (kns args vars rows)) (outs : List Tp) (post : FnX Prop (kns args vars rows ++ outs)) (ret : FnX V (kns args vars rows ++ outs))
    (vars' : FnX (List Var) (kns args vars rows ++ outs)) (rows' : FnX (List Row) (kns args vars rows ++ outs)) : Con :=
  ⟨args, vars, rows, [], false, true, appX False _ pre, outs, fun us os => appX True _ post (us ++ os), fun us os => appX .junk _ ret (us ++ os), fun us os => appX [] _ vars' (us ++ os), fun us os => appX [] _ rows' (us ++ os), fun _ _ => []⟩
/-- With objects. -/
def mkConO (args : List Sh) (vars : List VP) (rows : List RP) (objs : List (OK × Tp)) (pre : FnX Prop (kns args vars rows objs)) (outs : List Tp) (post : FnX Prop (kns args vars rows objs ++ outs)) (ret : FnX V (kns args vars rows objs ++ outs))
    (vars' : FnX (List Var) (kns args vars rows objs ++ outs)) (rows' : FnX (List Row) (kns args vars rows objs ++ outs)) (objs' : FnX (List Ob) (kns args vars rows objs ++ outs)) : Con :=
  ⟨args, vars, rows, objs, false, false, appX False _ pre, outs, fun us os => appX True _ post (us ++ os), fun us os => appX .junk _ ret (us ++ os), fun us os => appX [] _ vars' (us ++ os), fun us os => appX [] _ rows' (us ++ os), fun us os => appX [] _ objs' (us ++ os)⟩
/-- No rows are lent as data: what goes out may lead to data. -/
def Con.firm (k : Con) : Con := { k with lend := false }
/-- Nothing of what comes in is turned. -/
def Con.look (k : Con) : Con := { k with ro := true, vars' := fun us _ => (k.st us).vars, rows' := fun us os => (k.st us).rows ++ k.rows' us os, objs' := fun us os => (k.st us).objs ++ k.objs' us os }
/-- A function of what comes in, that turns nothing. -/
def fnC (args : List Sh) (ret : FnX V (kns args [] [] ++ [])) : Con := mkCon args [] [] (constX True _) [] (constX True _) ret (constX [] _) (constX [] _)
def fnP (args : List Sh) (pre : FnX Prop (kns args [] [])) (ret : FnX V (kns args [] [] ++ [])) : Con := mkCon args [] [] pre [] (constX True _) ret (constX [] _) (constX [] _)
/-- That makes rows. -/
def fnR (args : List Sh) (pre : FnX Prop (kns args [] [])) (ret : V) (rows : FnX (List Row) (kns args [] [] ++ [])) : Con := mkCon args [] [] pre [] (constX True _) (constX ret _) (constX [] _) rows
def fnRV (args : List Sh) (pre : FnX Prop (kns args [] [])) (ret : FnX V (kns args [] [] ++ [])) (rows : FnX (List Row) (kns args [] [] ++ [])) : Con := mkCon args [] [] pre [] (constX True _) ret (constX [] _) rows
/-- That answers with a number, told by a proposition. -/
def mkRow (e : TypeId) (t : Tp) (l : List t.T) : Row := ⟨true, false, e, t, .s (l.length : Int), l⟩
def mkRowL (e : TypeId) (t : Tp) (n : Int) (l : List t.T) : Row := ⟨true, false, e, t, .l n, l⟩
def pkV (t : Tp) (e : t.T) : Var := ⟨true, .pk t e⟩
abbrev i64 (n : Int) : V := .i .i64 (.s n)
abbrev u64 (n : Int) : V := .i .u64 (.s n)
abbrev u8 (n : Int) : V := .i .u8 (.s n)
abbrev bb (b : Bool) : V := .b (.s b)
abbrev st (s : ByteArray) : V := .v (.string s)

/-! ### Laws -/
/-- A law: it answers yes. -/
def lawC (args : List Sh) (pre : FnX Prop (kns args [] [])) : Con := mkCon args [] [] pre [] (constX True _) (constX (.b (.l true)) _) (constX [] _) (constX [] _)
/-- All of the world may be read. -/
abbrev inC (w : World) : C := ⟨w, fun k _ => k < w.heap.size, fun _ => (0, 0), fun _ => undef, fun _ => undef, fun _ _ _ => False, 0, 0, 0⟩
theorem appX_const {α : Type} (z a : α) (P : α → Prop) (hz : P z) (ha : P a) : ∀ (ts : List Tp) (us : List U), P (appX z ts (constX a ts) us)
  | [], _ => ha
  | _ :: ts, u :: us => appX_const z a P hz ha ts us
  | _ :: _, [] => hz
/-- Variables that stand for ever do. -/
def Env.at_ (K : Env) (w : World) : Prop := ∀ p ∈ K.gl, p.1.1 < w.heap.size ∧ w.cell? ⟨p.1.1, p.1.2, none⟩ = some p.2
theorem Holds.init (K : Env) (w : World) (hg : K.at_ w) : Holds w (baseOf K false (inC w) ⟨[], [], [], [], [], ⟨0, 0, 0, 0⟩⟩) (inC w) ⟨[], [], [], [], [], ⟨0, 0, 0, 0⟩⟩ ⟨#[], []⟩ :=
  { gl := hg, keeps := Keeps.refl _ _, eF := fun _ _ h => h, eF2 := fun _ _ h => .inl h, lk := rfl, fpk := ⟨Nat.zero_le _, fun r hr => absurd hr (Nat.not_lt_zero r), rfl, fun x k o _ h => (by obtain ⟨b, hb, _⟩ := h; simp at hb), fun r v h => (by simp [baseOf] at h)⟩, tmps := RVs.nil, defers := rfl, nv := rfl, nr := rfl, nb := rfl, vars := fun x b hb => by simp at hb, rows := fun x b hb => by simp at hb, objs := fun x b hb => by simp at hb,
    disj := fun q q' k o h => (by cases q <;> obtain ⟨b, hb, _⟩ := h <;> simp at hb), mine := fun q k o h => (by cases q <;> obtain ⟨b, hb, _⟩ := h <;> simp at hb), free := fun q k o h => (by cases q <;> obtain ⟨b, hb, _⟩ := h <;> simp at hb), flt := fun k o h => h, ag := fun x ad h => by simp [baseOf] at h, ar := fun r v h => by simp [baseOf] at h, ao := fun r v h => by simp [baseOf] at h }
theorem init_ext {K : Env} {w : World} {c' : C} {s' : S} {a' : Act} (h : Holds w (baseOf K false (inC w) ⟨[], [], [], [], [], ⟨0, 0, 0, 0⟩⟩) c' s' a') : Below w.heap.size w c'.w := by
  have hk := h.keeps
  have hx : Ext w c'.w := hk.ext fun k o h => by
    obtain ⟨_, q, h⟩ := h
    cases q <;> obtain ⟨b, hb, _⟩ := h <;> simp at hb
  exact ⟨hk.os, hk.tape, hk.output, hx.size, hx.block⟩
theorem law_walk {K : Env} {P : Program} {g : FuncId} {args : List Sh} {pre : FnX Prop (kns args [] [])} (hk : (lawC args pre).ok K P g) (us : List U) (hus : us.map U.t = Sh.kns args) (hpre : (lawC args pre).pre us) (w : World) (hg : K.at_ w) (vals : List Value) (h : RVs (inC w) (Sh.mks args us).1 vals) :
    Calls P g vals.toArray w fun e w' => e = .returned (.bool true) ∧ Below w.heap.size w w' := by
  have hst : (lawC args pre).st us = ⟨[], [], [], [], [], ⟨0, 0, 0, 0⟩⟩ := by simp [Con.st, Con.lk, lawC, mkCon, VP.mks, RP.mks, OP.mks]
  have hh : Holds w (baseOf K (lawC args pre).ro (inC w) ((lawC args pre).st us)) (inC w) ((lawC args pre).st us) ⟨#[], []⟩ := by
    rw [hst]; exact Holds.init K w hg
  refine (hk us (by simpa [Con.kn, lawC, mkCon, VP.kns, RP.kns, OP.kns] using hus) hpre (inC w) vals hh h).mono ?_
  rintro e w' ⟨u, os, c', rfl, rfl, hos, _, hr, hh'⟩
  have hr' : u = .bool true := by
    have : (∀ v : V, (v = .b (.l true) ∨ v = .junk) → RV c' v u → u = .bool true ∨ v = .junk) := fun v hv hr => by
      rcases hv with rfl | rfl
      · left; simpa [RV, B.val] using hr
      · right; rfl
    have hos' : os = [] := by simpa [lawC, mkCon] using hos
    subst hos'
    have key : ∀ (ts : List Tp) (us : List U), us.length = ts.length → appX V.junk ts (constX (.b (.l true)) ts) us = .b (.l true) := by
      intro ts
      induction ts with
      | nil => intro us _; rfl
      | cons t ts ih =>
        intro us hl
        cases us with
        | nil => cases hl
        | cons u us => exact ih us (by simpa using hl)
    have hl : us.length = (kns args [] [] ++ []).length := by
      have := congrArg List.length hus
      simpa [kns, VP.kns, RP.kns, OP.kns] using this
    simp only [lawC, mkCon, List.append_nil] at hr
    rw [key _ _ (by simpa using hl)] at hr
    simpa [RV, B.val] using hr
  subst hr'
  rw [hst] at hh'
  exact ⟨rfl, init_ext hh'⟩
end Go.Fx
