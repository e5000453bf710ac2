/- What is to be shown of a function, as one proposition; and that it is enough. -/
import Derived.Test.YtplefbcgpbdkfaaDoorF3
set_option linter.all false
namespace Go.Fx
open Go Go.RowKit

/-! ### Names that are functions' arguments -/
abbrev FnP : List Tp → Type
  | [] => Prop
  | t :: ts => t.T → FnP ts
abbrev FnN : List Tp → Type
  | [] => Nat
  | t :: ts => t.T → FnN ts
def appP : (ts : List Tp) → FnP ts → List U → Prop
  | [], p, _ => p
  | t :: ts, f, u :: us => appP ts (f (u.as t)) us
  | _ :: _, _, [] => False
def appN : (ts : List Tp) → FnN ts → List U → Nat
  | [], p, _ => p
  | t :: ts, f, u :: us => appN ts (f (u.as t)) us
  | _ :: _, _, [] => 0

def tysEq : List Tp → List Tp → Bool
  | [], [] => true
  | a :: l, b :: m => a.eq b && tysEq l m
  | _, _ => false
theorem tysEq_of : ∀ {l m : List Tp}, tysEq l m = true → l = m
  | [], [], _ => rfl
  | a :: l, b :: m, h => by
    simp only [tysEq, Bool.and_eq_true] at h
    rw [Tp.of_eq h.1, tysEq_of h.2]
  | [], _ :: _, h => by simp [tysEq] at h
  | _ :: _, [], h => by simp [tysEq] at h

/-! ### Loops that are told round by round -/
abbrev Stk := List (Code × List It × (S → Prop))
def full : Stk → List It
  | [] => []
  | (cd, k, _) :: r => .inLoop cd :: (k ++ full r)
def exitStk (id : Nat) : Stk → Option (List It × Stk)
  | [] => none
  | (_, k, _) :: r => match exitIt id k with
    | some k' => some (k', r)
    | none => exitStk id r
theorem exitStk_full {id : Nat} : ∀ {stk : Stk} {k' : List It} {r : Stk}, exitStk id stk = some (k', r) → exitIt id (full stk) = some (k' ++ full r) ∧ ∃ pre, stk = pre ++ r
  | [], _, _, h => by simp [exitStk] at h
  | (cd, k, bk) :: stk, k', r, h => by
    simp only [exitStk] at h
    simp only [full, exitIt, exitIt_append]
    split at h
    · rename_i k2 hk
      obtain ⟨rfl, rfl⟩ := Prod.mk.inj (Option.some.inj h)
      rw [hk]
      exact ⟨rfl, [_], rfl⟩
    · rename_i hk
      rw [hk]
      obtain ⟨h1, pre, h2⟩ := exitStk_full h
      exact ⟨h1, _ :: pre, by rw [h2]; rfl⟩
def usesS : Stk → List Nat
  | [] => []
  | (cd, k, _) :: r => usesC cd ++ (usesI k ++ usesS r)
def usesR : List ResultVar → List Nat
  | [] => []
  | .tmp t :: r => t :: usesR r
  | .cell a _ :: r => a :: usesR r
def allL {α : Type} (f : α → Prop) : List α → Prop
  | [] => True
  | [x] => f x
  | x :: xs => f x ∧ allL f xs
theorem allL_iff {α : Type} {f : α → Prop} : ∀ {l : List α}, allL f l → ∀ x ∈ l, f x
  | [], _, x, hx => by cases hx
  | [y], h, x, hx => by
    obtain rfl : x = y := by simpa using hx
    exact h
  | y :: z :: l, h, x, hx => by
    rcases List.mem_cons.1 hx with rfl | hx
    · exact h.1
    · exact allL_iff h.2 x hx
def unf (Λ : List (Nat × LAnn)) : Option Nat → Bool
  | some id => (lookN Λ id).isNone
  | none => true

/-! ### Names for what has come out -/
def needsP : List Need → Prop → Prop
  | [], p => p
  | .idx i n :: ns, p => (0 ≤ i ∧ i < n) ∧ needsP ns p
  | .le a b :: ns, p => a ≤ b ∧ needsP ns p
  | .room n bytes :: ns, p => (0 ≤ n ∧ n * bytes ≤ 140737488355328) ∧ needsP ns p
  | .nonneg a :: ns, p => 0 ≤ a ∧ needsP ns p
  | .ne a b :: ns, p => a ≠ b ∧ needsP ns p
  | .tru b :: ns, p => b = true ∧ needsP ns p
theorem needsP_iff : ∀ {l : List Need} {p : Prop}, needsP l p ↔ needsOK l ∧ p
  | [], p => by simp [needsP, needsOK]
  | n :: ns, p => by
    have ih := needsP_iff (l := ns) (p := p)
    cases n <;> simp only [needsP, needsOK, Need.ok, ih, and_assoc]
def nameT (s : S) (d : Nat) (k : S → Prop) : Prop :=
  match s.tmps[d]? with
  | some (.i kd (.s e)) => ∀ x : Int, x = e → k { s with tmps := s.tmps.set d (.i kd (.s x)) }
  | some (.x t e) => ∀ x : t.T, x = e → k { s with tmps := s.tmps.set d (.x t x) }
  | _ => k s
def nameR (s : S) (r : Nat) (k : S → Prop) : Prop :=
  match s.rows[r]? with
  | some b => ∀ x : List b.t.T, x = b.l → k { s with rows := s.rows.set r { b with l := x } }
  | none => k s
def nameV (s : S) (v : Nat) (k : S → Prop) : Prop :=
  match s.vars[v]? with
  | some ⟨lv, .pk t e⟩ => ∀ x : t.T, x = e → k { s with vars := s.vars.set v ⟨lv, .pk t x⟩ }
  | _ => k s
def nameW : List Say → S → (S → Prop) → Prop
  | [], s, k => k s
  | .t d :: w, s, k => nameT s d fun s => nameW w s k
  | .v x :: w, s, k => nameV s x fun s => nameW w s k
  | .r r :: w, s, k => nameR s r fun s => nameW w s k
theorem set_same {α : Type} {l : List α} {i : Nat} {v : α} (h : l[i]? = some v) : l.set i v = l := by
  apply List.ext_getElem?
  intro j
  by_cases e : i = j
  · subst e
    rw [List.getElem?_set_self (List.getElem?_eq_some_iff.1 h).1, h]
  · rw [List.getElem?_set_ne e]
theorem nameT_iff {s : S} {d : Nat} {k : S → Prop} (h : nameT s d k) : k s := by
  unfold nameT at h
  split at h
  · rename_i hd
    have := h _ rfl
    rwa [set_same hd] at this
  · rename_i hd
    have := h _ rfl
    rwa [set_same hd] at this
  · exact h
theorem nameR_iff {s : S} {r : Nat} {k : S → Prop} (h : nameR s r k) : k s := by
  unfold nameR at h
  split at h
  · rename_i b hd
    have := h _ rfl
    rwa [set_same hd] at this
  · exact h
theorem nameV_iff {s : S} {r : Nat} {k : S → Prop} (h : nameV s r k) : k s := by
  unfold nameV at h
  split at h
  · rename_i hd
    have := h _ rfl
    rwa [set_same hd] at this
  · exact h
theorem nameW_iff : ∀ {w : List Say} {s : S} {k : S → Prop}, nameW w s k → k s
  | [], s, k, h => h
  | .t d :: w, s, k, h => nameW_iff (nameT_iff h)
  | .v d :: w, s, k, h => nameW_iff (nameV_iff h)
  | .r d :: w, s, k, h => nameW_iff (nameR_iff h)

/-! ### The proposition -/
/-- Ways that are never gone: the branches taken, the latest one first. -/
def deadB (D : List (List Bool)) (p : List Bool) : Bool := D.any fun q => q == p
/-- What a call wants as data. -/
def Con.cold (k : Con) (A : Anc) (args : List V) : List Nat := if k.lend then [] else A.own (coldVs k.args args)
def LAnn.cold (L : LAnn) (A : Anc) (s : S) : List Nat :=
  A.own (coldVs (L.tmps.map (·.2)) (L.tmps.map fun x => s.tmps.getD x.1 .junk) ++ L.vars.flatMap fun x => match s.vars[x.1]? with | some b => coldC x.2 b.ct | none => [])
/-- At a round's end: rows that have no name become data. -/
def LAnn.back2 (L : LAnn) (A : Anc) (asg used : List Nat) (base s : S) (p : List U → Prop) : Prop :=
  let h0 := L.head asg used base []
  let σ := fdAV s.vars L.vars (fdVars s.vars 0 h0.vars (fdSs (L.tmps.map (·.2)) (L.tmps.map fun x => s.tmps.getD x.1 .junk) ⟨[], [], []⟩))
  L.back A asg used base (frzL (A.rest σ base.rows.length s) s) p
/-- At a function's end likewise. -/
def Con.fin2 (k : Con) (us : List U) (vs : List V) (s : S) : Prop :=
  exU k.outs fun os => k.post us os ∧ (let σ := fdVars s.vars 0 (k.vars' us os) (fdV (k.ret us os) (packV vs) ⟨[], [], []⟩)
    let l := k.anc.rest σ (k.rows' us os).length s
    chkS k.anc σ (frzL l s) (k.outS us os) [k.ret us os] [packV (frzA l s.rows vs)] True)
section
variable (E : Env) (T : TypeId → TI) (res : List ResultVar) (Γ : List (FuncId × Con)) (Λ : List (Nat × LAnn)) (D : List (List Bool)) (anc : Anc) (fin : List V → S → Prop)
def VC : Nat → List Bool → Stk → List It → S → Prop
  | 0, _, _, _, _ => False
  | n + 1, pa, stk, its, s => match run T res (unf Λ) 100000 its s with
    | .base s => needsP s.needs (match stk with
      | [] => match resVs T s.bare res with | some vs => fin vs s.bare | none => False
      | (_, _, bk) :: _ => bk s.bare)
    | .ret vs s => needsP s.needs (fin vs s.bare)
    | .branch b t1 s1 t2 s2 => needsP s1.needs ((b = true → if deadB D (true :: pa) then False else VC n (true :: pa) stk t1 s1.bare) ∧ (b = false → if deadB D (false :: pa) then False else VC n (false :: pa) stk t2 s2.bare))
    | .call g args dst ask t s => needsP s.needs (match lookN Γ g with
      | some k =>
        let l := k.cold anc args
        let s1 := frzL l s.bare
        let args1 := frzA l s.bare.rows args
        match k.enter s1 args1 with
        | some us => k.pre us ∧ allU k.outs fun os => k.post us os →
          if k.goes s1 args1 ask us os then VC n pa stk t ((k.aft s1 args1 us os).put dst (k.back s1 args1 us os))
          else False
        | none => False
      | none => False)
    | .out id s => needsP s.needs (match exitStk id stk with
      | some (k, r) => VC n pa r k s.bare
      | none => False)
    | .loop cd t s => needsP s.needs (match idOf t with
      | some id => match lookN Λ id with
        | some A => match nilsS A.nils (frzL (A.cold anc s.bare) s.bare) with
          | some s1 =>
            let used := usesC cd ++ (usesI t ++ (usesS stk ++ usesR res))
            let asg := asgC cd
            match A.rd ⟨[], [], []⟩ s1 s1 with
            | some us0 =>
              let ks := us0.map U.t
              ∃ Inv : FnP ks, ∃ μ : FnN ks, appP ks Inv us0 ∧
                allU ks fun us => appP ks Inv us → VC n pa ((cd, t, fun s' => A.back2 anc asg used s1 s' fun us' => if tysEq (us'.map U.t) ks then appP ks Inv us' ∧ appN ks μ us' < appN ks μ us else False) :: stk) [.code cd] (A.head asg used s1 us)
            | none => False
          | none => False
        | none => False
      | none => False)
    | .fork ts s => needsP s.needs (allL (fun t => VC n pa stk t s.bare) ts)
    | .say w t s => needsP s.needs (nameW w s.bare fun s => VC n pa stk t s)
    | .stuck o all rest t s => needsP s.needs (match caseOp T s.bare o.op with
      | some (d, k, i, m) => (0 ≤ i ∧ i < m) ∧ allL (fun (j : Nat) => i = j → VC n pa stk (.ops all (o :: rest) :: t) (s.bare.put (some d) (.i k (.l j)))) (List.range m)
      | none => match anc.own (coldOp s.bare o.op) with
        | [] => match shutOf T s.bare o.op with
          | some (y, m) => shutP E anc s.bare y m fun s2 => VC n pa stk (.ops all (o :: rest) :: t) s2
          | none => False
        | x :: l => VC n pa stk (.ops all (o :: rest) :: t) (frzL (x :: l) s.bare))
    | .bad t s => needsP s.needs (match caseBad T s.bare t with
      | some (d, k, i, m) => (0 ≤ i ∧ i < m) ∧ allL (fun (j : Nat) => i = j → VC n pa stk t (s.bare.put (some d) (.i k (.l j)))) (List.range m)
      | none => match shutBad T s.bare t with
        | some (y, m, rds) => shutP E anc s.bare y m fun s2 => if keepB rds s.bare s2 = true then VC n pa stk t s2 else False
        | none => False)
    | _ => False
end

section
variable {P : Program} {T : TypeId → TI} (hT : TabOK P T) {w0 : World} {fp : Base} {f : FuncId} {R : Ending → World → Prop} {fn : Func}
def StkOK (P : Program) (f : FuncId) (w0 : World) (fp : Base) (R : Ending → World → Prop) : Stk → Prop
  | [] => True
  | (cd, k, bk) :: r => (∀ s, bk s → GoesS P f w0 fp R (.inLoop cd :: (k ++ full r)) s) ∧ StkOK P f w0 fp R r
theorem StkOK.drop : ∀ {pre r : Stk}, StkOK P f w0 fp R (pre ++ r) → StkOK P f w0 fp R r
  | [], _, h => h
  | _ :: pre, _, h => StkOK.drop (pre := pre) h.2
def GOK (K : Env) (P : Program) (Γ : List (FuncId × Con)) : Prop := ∀ g k, lookN Γ g = some k → Callable P g ∧ k.ok K P g
include hT in
theorem GoesS.end_ {s : S} {vs : List V} (hfn : P.funcs[f]? = some fn) (hr : resVs T s fn.results.toList = some vs) (hf : Fin w0 fp R vs s) : GoesS P f w0 fp R [] s := by
  intro p c a ht hh
  cases p with
  | items todo =>
    have : todo = [] := by simpa [Pos.its] using ht
    subst this
    obtain ⟨us, h1, h2⟩ := results_sound hT hh hr
    exact Goes.done hfn hh.defers h1 (hf c a us hh h2)
  | open_ => cases ht
  | pick => cases ht
theorem CallGood.of {s : S} {its : List It} {g : FuncId} {args : List V} {dst : Option Nat} {ask : Option (List Rt)} {k : Con} {us : List U} (hc : Callable P g) (hk : k.ok fp.K P g) (he : k.enter s args = some us) (hpre : k.pre us)
    (h : ∀ os, os.map U.t = k.outs → k.post us os → k.goes s args ask us os = true ∧ GoesS P f w0 fp R its ((k.aft s args us os).put dst (k.back s args us os))) :
    CallGood P f w0 fp R g args dst ask its s := by
  refine ⟨hc, fun c a ws hh hws => ?_⟩
  obtain ⟨h1, _, _, _, _, _, h5, h6, _⟩ := Con.enter_sound hh he ws hws
  refine Calls.mono (hk us h1 hpre (k.lendC c s (k.sg s args)) _ h5 h6) fun e w' hq => ?_
  obtain ⟨u, os, c', rfl, rfl, hos, hpost, hret, hh'⟩ := hq
  obtain ⟨hl, hG⟩ := h os hos hpost
  simp only [Con.goes, Bool.and_eq_true] at hl
  obtain ⟨c2, e2, hh2, hr2, hkr⟩ := Con.after_sound hh he ws hws hl.2 hh' hret
  refine ⟨u, rfl, c2, _, _, e2, fun l hask => ?_, hh2, hr2, hG⟩
  refine hkr l fun q hq => ?_
  have := hl.1
  rw [hask] at this
  simpa using List.all_eq_true.1 this q hq
theorem LAnn.back2_sound {A : LAnn} {anc : Anc} (hA : anc.of fp) {asg used : List Nat} {base s : S} {p : List U → Prop} (h : A.back2 anc asg used base s p) : ∃ us, p us ∧ ∀ (c : C) (a : Act), Holds w0 fp c s a → ∃ c' : C, c'.w = c.w ∧ Holds w0 fp c' (A.head asg used base us) a := by
  unfold LAnn.back2 at h
  simp only at h
  generalize fdAV s.vars A.vars (fdVars s.vars 0 (A.head asg used base []).vars (fdSs (A.tmps.map (·.2)) (A.tmps.map fun x => s.tmps.getD x.1 .junk) ⟨[], [], []⟩)) = σ at h
  obtain ⟨us, h1, h2⟩ := LAnn.back_sound (w0 := w0) hA h
  refine ⟨us, h1, fun c a hh => ?_⟩
  obtain ⟨c', e, hh', _, _⟩ := hh.frzL hA (l := anc.rest σ base.rows.length s) (fun r hr => Anc.rest_spec hr)
  obtain ⟨c2, e2, hh2⟩ := h2 c' a hh'
  exact ⟨c2, e2.trans e, hh2⟩
theorem Con.fin2_sound {k : Con} {us : List U} {vs : List V} {s : S} (hA : k.anc.of fp) (h : k.fin2 us vs s) :
    Fin w0 fp (fun e w' => ∃ (u : Value) (os : List U) (c' : C), e = .returned u ∧ w' = c'.w ∧ os.map U.t = k.outs ∧ k.post us os ∧ RV c' (k.ret us os) u ∧ Holds w0 fp c' (k.outS us os) ⟨#[], []⟩) vs s := by
  intro c a ws hh hws
  obtain ⟨os, hos, hpost, h⟩ := exU_spec h
  generalize fdVars s.vars 0 (k.vars' us os) (fdV (k.ret us os) (packV vs) ⟨[], [], []⟩) = σ at h
  obtain ⟨c1, e1, hh1, hv1, _⟩ := hh.frzL hA (l := k.anc.rest σ (k.rows' us os).length s) (fun r hr => Anc.rest_spec hr)
  obtain ⟨_, h⟩ := chkS_sound (w0 := w0) hA h
  obtain ⟨h1, h2⟩ := h c1 a ⟨#[], []⟩ hh1 rfl
  have hr := h1 [pack ws] (.cons (pack_RV (hv1 _ _ hws)) .nil)
  simp only [RVs] at hr
  obtain ⟨u, us', e, hu, e2⟩ := hr
  simp only [List.cons.injEq] at e
  obtain ⟨rfl, _⟩ := e
  refine ⟨pack ws, os, c1.ren _ _ _ _, rfl, e1.symm, hos, hpost, hu, h2 RVs.nil⟩
include hT in
theorem VC_sound {Γ : List (FuncId × Con)} {Λ : List (Nat × LAnn)} {D : List (List Bool)} {anc : Anc} {fin : List V → S → Prop} (hA : anc.of fp) (hm : P.follows .mixedOrders = true) (hfn : P.funcs[f]? = some fn) (hΓ : GOK fp.K P Γ) (hfin : ∀ vs s, fin vs s → Fin w0 fp R vs s) :
    ∀ (n : Nat) (pa : List Bool) (stk : Stk) (its : List It) (s : S), VC fp.K T fn.results.toList Γ Λ D anc fin n pa stk its s → StkOK P f w0 fp R stk → GoesS P f w0 fp R (its ++ full stk) s := by
  intro n
  induction n with
  | zero => intro pa stk its s h; exact h.elim
  | succ n ih =>
    intro pa stk its s h hstk
    refine run_sound hT hm hfn (un := unf Λ) 100000 its s ?_ ?_
    · -- what is asked for
      unfold VC at h
      split at h
      case h_11 => exact h.elim
      all_goals
        rename_i hr
        rw [hr]
        exact (needsP_iff.1 h).1
    · unfold VC at h
      split at h
      case h_1 s' hr =>
        rw [hr]
        obtain ⟨_, h⟩ := needsP_iff.1 h
        simp only [Out.good]
        cases stk with
        | nil =>
          simp only at h
          split at h
          · rename_i vs hvs
            exact GoesS.end_ hT hfn hvs (hfin _ _ h)
          · exact h.elim
        | cons e r =>
          obtain ⟨cd, k, bk⟩ := e
          exact hstk.1 _ h
      case h_2 vs s' hr =>
        rw [hr]
        exact hfin _ _ (needsP_iff.1 h).2
      case h_3 b t1 s1 t2 s2 hr =>
        rw [hr]
        obtain ⟨_, h1, h2⟩ := needsP_iff.1 h
        refine ⟨fun e => ?_, fun e => ?_⟩
        · have := h1 e
          split at this
          · exact this.elim
          · exact ih _ _ _ _ this hstk
        · have := h2 e
          split at this
          · exact this.elim
          · exact ih _ _ _ _ this hstk
      case h_4 g args dst ask t s' hr =>
        rw [hr]
        obtain ⟨_, h⟩ := needsP_iff.1 h
        split at h
        case h_2 => exact h.elim
        rename_i k hk
        simp only at h
        split at h
        case h_2 => exact h.elim
        rename_i us hus
        obtain ⟨q1, q2⟩ := hΓ g k hk
        refine CallGood.frzL hA (l := k.cold anc args) (fun r hr => by
          unfold Con.cold at hr
          split at hr
          · simp at hr
          · exact Anc.own_spec hr) ?_
        refine CallGood.of q1 q2 hus h.1 (fun os ho hp => ?_)
        have := allU_spec h.2 os ho hp
        split at this
        · rename_i hl
          exact ⟨hl, ih _ _ _ _ this hstk⟩
        · exact this.elim
      case h_5 id s' hr =>
        rw [hr]
        obtain ⟨_, h⟩ := needsP_iff.1 h
        split at h
        case h_2 => exact h.elim
        rename_i k r he
        obtain ⟨e1, pre, e2⟩ := exitStk_full he
        refine ⟨_, e1, ih _ _ _ _ h ?_⟩
        rw [e2] at hstk
        exact hstk.drop
      case h_6 cd t s' hr =>
        rw [hr]
        obtain ⟨_, h⟩ := needsP_iff.1 h
        split at h
        case h_2 => exact h.elim
        rename_i id hid
        split at h
        case h_2 => exact h.elim
        rename_i A hA'
        split at h
        case h_2 => exact h.elim
        rename_i s1 hs1
        simp only at h
        split at h
        case h_2 => exact h.elim
        rename_i us0 hus0
        obtain ⟨Inv, μ, hI, hround⟩ := h
        refine GoesS.frzL hA (l := A.cold anc s'.bare) (fun r hr => Anc.own_spec hr) ?_
        refine nilsS_sound rfl hs1 (GoesS.loop (σ := List U) (A.head (asgC cd) (usesC cd ++ (usesI t ++ (usesS stk ++ usesR fn.results.toList))) s1) (fun us => us.map U.t = us0.map U.t ∧ appP (us0.map U.t) Inv us) (appN (us0.map U.t) μ) us0 ⟨rfl, hI⟩ (LAnn.begin_sound hus0) (fun us hus back => ?_))
        refine ih _ _ [.code cd] _ (allU_spec hround us hus.1 hus.2) ⟨fun s2 hs2 => ?_, hstk⟩
        obtain ⟨us', hp, hw'⟩ := LAnn.back2_sound hA hs2
        split at hp
        · rename_i ht
          exact GoesS.weaken rfl hw' (back us' ⟨tysEq_of ht, hp.1⟩ hp.2)
        · exact hp.elim
      case h_7 ts s' hr =>
        rw [hr]
        obtain ⟨_, h⟩ := needsP_iff.1 h
        exact fun t ht => ih _ _ _ _ (allL_iff h t ht) hstk
      case h_8 w t s' hr =>
        rw [hr]
        obtain ⟨_, h⟩ := needsP_iff.1 h
        exact ih _ _ _ _ (nameW_iff h) hstk
      case h_9 o all rest t s' hr =>
        rw [hr]
        obtain ⟨_, h⟩ := needsP_iff.1 h
        split at h
        · rename_i d k i m hc
          exact GoesS.case (caseOp_spec hc) h.1.1 h.1.2 (fun j hj e => by
            have := allL_iff h.2 j (by simpa using hj) e
            exact ih _ _ _ _ this hstk)
        · split at h
          · split at h
            · exact GoesS.shutP hA rfl (fun s2 h2 => ih _ _ _ _ h2 hstk) h
            · exact h.elim
          · rename_i x l hl
            exact GoesS.frzL hA (l := x :: l) (fun r hr => Anc.own_spec (by rw [hl]; exact hr)) (ih _ _ _ _ h hstk)
      case h_10 t s' hr =>
        rw [hr]
        obtain ⟨_, h⟩ := needsP_iff.1 h
        split at h
        · rename_i d k i m hc
          exact GoesS.case (caseBad_spec hc) h.1.1 h.1.2 (fun j hj e => by
            have := allL_iff h.2 j (by simpa using hj) e
            exact ih _ _ _ _ this hstk)
        · split at h
          · rename_i y m rds hsb
            exact GoesS.shutBad hA (shutBad_app hsb) (fun s2 h2 => ih _ _ _ _ h2 hstk) h
          · exact h.elim
      case h_11 => exact h.elim
end

/-- Where a call begins. -/
def Con.begin (k : Con) (fn : Func) (us : List U) : S := { k.st us with tmps := k.argV us ++ List.replicate (fn.ntmps - (k.argV us).length) (.v undef) }
/-- What is to be shown of a function for its contract. -/
def Con.vc (E : Env) (T : TypeId → TI) (fn : Func) (Γ : List (FuncId × Con)) (Λ : List (Nat × LAnn)) (D : List (List Bool)) (Θ : List (Nat × VR)) (k : Con) : Prop :=
  allU k.kn fun us => k.pre us → VC E T fn.results.toList Γ Λ D k.anc (fun vs s => shutRes E k.anc Θ vs s (k.fin2 us)) 100000 [] [] [.code (fn.body.getD .skip)] (k.begin fn us)
theorem Con.of_vc {P : Program} {K : Env} {T : TypeId → TI} {f : FuncId} {fn : Func} {Γ : List (FuncId × Con)} (Λ : List (Nat × LAnn)) (D : List (List Bool)) (Θ : List (Nat × VR)) {k : Con} (hT : TabOK P T) (hm : P.follows .mixedOrders = true) (hfn : P.funcs[f]? = some fn) (hb : fn.body.isSome = true) (hΓ : GOK K P Γ)
    (h : k.vc K T fn Γ Λ D Θ) : k.ok K P f := by
  obtain ⟨code, hcode⟩ := Option.isSome_iff_exists.1 hb
  refine Con.of0 hfn hcode (fun us hus hpre w0 fp hA hK => ?_)
  subst hK
  have := VC_sound hT hA hm hfn hΓ (w0 := w0) (fun vs s hf => shutRes_sound hA (fun vs s hf => Con.fin2_sound hA hf) Θ vs s hf) _ [] [] _ _ (allU_spec h us hus hpre) trivial
  simpa [hcode, full, Con.begin] using this
theorem toVC {p q : Prop} (hp : p) (h : q = p) : q := h ▸ hp
theorem GOK.nil {K : Env} {P : Program} : GOK K P [] := fun g k h => by simp [lookN] at h
theorem GOK.cons {K : Env} {P : Program} {g : FuncId} {k : Con} {Γ : List (FuncId × Con)} (h1 : Callable P g) (h2 : k.ok K P g) (h : GOK K P Γ) : GOK K P ((g, k) :: Γ) := fun g' k' h' => by
  simp only [lookN] at h'
  split at h'
  · rename_i e
    obtain rfl := eq_of_beq e
    obtain rfl := Option.some.inj h'
    exact ⟨h1, h2⟩
  · exact h g' k' h'
end Go.Fx
