/- What is to be shown of a function, as one proposition; and that it is enough. -/
import Derived.Test.YtkhbodngiodklaaDyV
set_option linter.all false
namespace Go.Dx
open Go Go.RowKit

/-! ### One state says less than another one -/
def clJ : V → Bool
  | .junk => true
  | v => cl v
def subCt (nv nr sz : Nat) (n : I) (a b : Ct) (p : Prop) : Prop :=
  if zeroI n then (if nilOK b then p else False) else
  match a, b with
  | .list l, .list l' => if l'.all clJ then subVs nv nr l l' p else False
  | a, .cols cs => subCs (a.cols' sz) cs p
  | _, _ => False
def subRow (nv nr : Nat) (b b' : Row) (p : Prop) : Prop :=
  if b'.live then (if b.live && b.e == b'.e && b.sz == b'.sz then eqI b.n b'.n (subCt nv nr b.sz b.n b.ct b'.ct p) else False) else p
def subRows (nv nr : Nat) : List Row → List Row → Prop → Prop
  | _, [], p => p
  | b :: bs, b' :: bs', p => subRow nv nr b b' (subRows nv nr bs bs' p)
  | [], _ :: _, _ => False
def subVars (nv nr : Nat) : List Var → List Var → Prop → Prop
  | _, [], p => p
  | b :: bs, b' :: bs', p => if b.t == b'.t then subVs nv nr b.cells b'.cells (subVars nv nr bs bs' p) else False
  | [], _ :: _, _ => False
def chk (s t : S) (p : Prop) : Prop := subVs t.vars.length t.rows.length s.tmps t.tmps (subVars t.vars.length t.rows.length s.vars t.vars (subRows t.vars.length t.rows.length s.rows t.rows p))
theorem RC.of_clJ {c : C} {v : V} {u : Value} (h : clJ v = true) (hr : RV c v u) : RC c v u := by
  cases v with
  | junk => simp only [RC]
  | _ => exact RC.of_cl h hr
theorem RCs.of_clJ {c : C} : ∀ {l : List V} {us : List Value}, l.all clJ = true → RVs c l us → RCs c l us
  | [], us, _, h => by simpa [RVs, RCs] using h
  | v :: l, us, h1, h => by
    simp only [RVs] at h
    obtain ⟨u, us', rfl, hu, hs⟩ := h
    simp only [List.all_cons, Bool.and_eq_true] at h1
    simp only [RCs]
    exact ⟨u, us', rfl, RC.of_clJ h1.1 hu, RCs.of_clJ h1.2 hs⟩
theorem zeroI_val {n : I} (h : zeroI n = true) : n.val = 0 := by
  unfold zeroI at h
  split at h
  · simpa [I.val] using h
  · cases h
theorem RC.cut_col {c : C} {nv nr : Nat} {cs : List Col} {i j : Nat} {u : Value} (h : RC c (getC cs i j) u) : RC (c.cut nv nr) (getC cs i j) u := by
  unfold getC at *
  cases hc : cs.getD j .j with
  | f d => rw [hc] at h; cases d <;> simpa only [Col.at, FCol.at, RC] using h
  | j => simp [Col.at, RC]
  | sl n ds =>
    rw [hc] at h
    simp only [Col.at, RC] at h ⊢
    exact roR.mono (fun _ h => h) (fun _ _ => rfl) (fun _ _ h => h.cut) h
theorem subCt_sound {nv nr sz : Nat} {n : I} {a b : Ct} {p : Prop} (h : subCt nv nr sz n a b p) : p ∧ ∀ (c : C) (us : List Value), nv ≤ c.nv → us.length = n.val.toNat * sz → RCs c (a.cells n.val.toNat sz) us → RCs (c.cut nv nr) (b.cells n.val.toNat sz) us := by
  unfold subCt at h
  split at h
  · rename_i hz
    split at h
    case isFalse => exact h.elim
    rename_i hnil
    refine ⟨h, fun c us _ hl _ => ?_⟩
    have h0 := zeroI_val hz
    have hus : us = [] := List.eq_nil_of_length_eq_zero (by rw [hl, h0]; simp)
    subst hus
    rw [h0]
    cases b with
    | cols cs => simp [Ct.cells, RCs]
    | list l =>
      have : l = [] := by simpa [nilOK] using hnil
      subst this
      simp [Ct.cells, RCs]
  · split at h
    · split at h
      case isFalse => exact h.elim
      rename_i hcl
      refine ⟨(RVs.sub (c := ⟨default, fun _ => False, fun _ => 0, fun _ => undef, nv, nr⟩) (Nat.le_refl _) (Nat.le_refl _) _ _ _ h).1, fun c us hnv hl hr => ?_⟩
      have hr' : RVs { c with nr := c.nr + nr } _ us := RVs.of_RCs _ _ (RCs.le (c := c) (c' := { c with nr := c.nr + nr }) ⟨fun _ h => h, fun _ _ => rfl, fun _ _ => rfl, Nat.le_refl _⟩ _ _ hr)
      have := (RVs.sub (c := { c with nr := c.nr + nr }) hnv (Nat.le_add_left _ _) _ _ _ h).2 us hr'
      exact RCs.of_clJ hcl this
    · refine ⟨(subCs_iff h).2, fun c us _ hl hr => ?_⟩
      refine RCs_flat hl (fun i j u hi hj hu => ?_)
      obtain ⟨u', hu', hq⟩ := RCs_flat_get (Ct.cols'_sound hl hr) hi hj
      rw [hu] at hu'
      obtain rfl := Option.some.inj hu'
      rcases subCs_get h i j with e | e
      · rw [e]; simp only [RC]
      · rw [e] at hq; exact RC.cut_col hq
    · exact h.elim
theorem subRows_sound {nv nr : Nat} : ∀ {bs bs' : List Row} {p : Prop}, subRows nv nr bs bs' p → p ∧ bs'.length ≤ bs.length ∧ ∀ (r : Nat) (w : Row), bs'[r]? = some w → w.live = true → ∃ v : Row, bs[r]? = some v ∧ v.live = true ∧ v.e = w.e ∧ v.sz = w.sz ∧ v.n.val = w.n.val ∧
    ∀ (c : C), nv ≤ c.nv → ∀ us, us.length = v.n.val.toNat * v.sz → RCs c (v.ct.cells v.n.val.toNat v.sz) us → RCs (c.cut nv nr) (w.ct.cells v.n.val.toNat v.sz) us
  | bs, [], p, h => ⟨by cases bs <;> exact h, by simp, fun r w hw => by simp at hw⟩
  | b :: bs, b' :: bs', p, h => by
    simp only [subRows, subRow] at h
    split at h
    · split at h
      case isFalse => exact h.elim
      rename_i hc
      simp only [Bool.and_eq_true, beq_iff_eq] at hc
      obtain ⟨e, h⟩ := eqI_iff.1 h
      obtain ⟨h, hct⟩ := subCt_sound h
      obtain ⟨hp, hl, ih⟩ := subRows_sound h
      refine ⟨hp, by simp; omega, fun r w hw hlw => ?_⟩
      cases r with
      | zero => simp at hw; subst hw; exact ⟨b, rfl, hc.1.1, hc.1.2, hc.2, e, fun c hnv us => hct c us hnv⟩
      | succ r => simpa using ih r w (by simpa using hw) hlw
    · rename_i hd
      obtain ⟨hp, hl, ih⟩ := subRows_sound h
      refine ⟨hp, by simp; omega, fun r w hw hlw => ?_⟩
      cases r with
      | zero => simp at hw; subst hw; exact absurd hlw hd
      | succ r => simpa using ih r w (by simpa using hw) hlw
  | [], _ :: _, p, h => by simp [subRows] at h
theorem subVars_sound {nv nr : Nat} : ∀ {bs bs' : List Var} {p : Prop}, subVars nv nr bs bs' p → p ∧ bs'.length ≤ bs.length ∧ ∀ (x : Nat) (w : Var), bs'[x]? = some w → ∃ v : Var, bs[x]? = some v ∧ v.t = w.t ∧
    ∀ (c : C), nv ≤ c.nv → nr ≤ c.nr → ∀ us, RVs c v.cells us → RVs (c.cut nv nr) w.cells us
  | bs, [], p, h => ⟨by cases bs <;> exact h, by simp, fun r w hw => by simp at hw⟩
  | b :: bs, b' :: bs', p, h => by
    simp only [subVars] at h
    split at h
    case isFalse => exact h.elim
    rename_i ht
    obtain ⟨hp0, _⟩ := RVs.sub (c := ⟨default, fun _ => False, fun _ => 0, fun _ => undef, nv, nr⟩) (Nat.le_refl _) (Nat.le_refl _) _ _ _ h
    obtain ⟨hp, hl, ih⟩ := subVars_sound hp0
    refine ⟨hp, by simp; omega, fun x w hw => ?_⟩
    cases x with
    | zero => simp at hw; subst hw; exact ⟨b, rfl, eq_of_beq ht, fun c hnv hnr us => (RVs.sub hnv hnr _ _ _ h).2 us⟩
    | succ x => simpa using ih x w (by simpa using hw)
  | [], _ :: _, p, h => by simp [subVars] at h
theorem chk_sound {s t : S} {p : Prop} (h : chk s t p) : p ∧ Weak s t := by
  unfold chk at h
  obtain ⟨h1, _⟩ := RVs.sub (c := ⟨default, fun _ => False, fun _ => 0, fun _ => undef, t.vars.length, t.rows.length⟩) (Nat.le_refl _) (Nat.le_refl _) _ _ _ h
  obtain ⟨h2, l2, v2⟩ := subVars_sound h1
  obtain ⟨hp, l3, r3⟩ := subRows_sound h2
  refine ⟨hp, l2, l3, fun c hnv hnr us hus => (RVs.sub (by omega) (by omega) _ _ _ h).2 us hus, fun x w hw => ?_, fun r w hw hl => ?_⟩
  · obtain ⟨v, q1, q2, q3⟩ := v2 x w hw
    exact ⟨v, q1, q2, fun c hnv hnr => q3 c (by omega) (by omega)⟩
  · obtain ⟨v, q1, q2, q3, q4, q5, q6⟩ := r3 r w hw hl
    exact ⟨v, q1, q2, q3, q4, q5, fun c hnv => q6 c (by omega)⟩

/-! ### Loops -/
structure LAnn where
  nils : List (Nat × Nat × Nat)
  tmps : List (Nat × Sh)
  vars : List (Nat × Nat × Sh)
  rows : List (Nat × List CSh)
def knT : List (Nat × Sh) → List Kn
  | [] => []
  | (_, a) :: l => a.kn ++ knT l
def knV : List (Nat × Nat × Sh) → List Kn
  | [] => []
  | (_, _, a) :: l => a.kn ++ knV l
def knR : List (Nat × List CSh) → List Kn
  | [] => []
  | (_, cs) :: l => .i :: (CSh.kns cs ++ knR l)
def LAnn.kn (A : LAnn) : List Kn := knT A.tmps ++ (knV A.vars ++ knR A.rows)
def cat2 : Option (List U) → Option (List U) → Option (List U)
  | some a, some b => some (a ++ b)
  | _, _ => none
def rdT (s : S) : List (Nat × Sh) → Option (List U)
  | [] => some []
  | (i, a) :: l => cat2 (a.rd s (s.tmps.getD i .junk)) (rdT s l)
def rdV (s : S) : List (Nat × Nat × Sh) → Option (List U)
  | [] => some []
  | (x, j, a) :: l => cat2 (match s.vars[x]? with | some b => a.rd s (b.cells.getD j .junk) | none => none) (rdV s l)
def rdR (s : S) : List (Nat × List CSh) → Option (List U)
  | [] => some []
  | (r, cs) :: l => cat2 (match s.rows[r]? with | some b => (CSh.rds (zeroI b.n) cs (b.ct.cols' b.sz)).map (.i b.n.val :: ·) | none => none) (rdR s l)
def LAnn.rd (A : LAnn) (s : S) : Option (List U) := cat2 (rdT s A.tmps) (cat2 (rdV s A.vars) (rdR s A.rows))
def mkT : List (Nat × Sh) → List V → List U → List V × List U
  | [], vs, us => (vs, us)
  | (i, a) :: l, vs, us => mkT l (vs.set i (a.mk us).1) (a.mk us).2
def mkVr : List (Nat × Nat × Sh) → List Var → List U → List Var × List U
  | [], vs, us => (vs, us)
  | (x, j, a) :: l, vs, us => mkVr l (vs.modify x fun b => { b with cells := b.cells.set j (a.mk us).1 }) (a.mk us).2
def mkRw : List (Nat × List CSh) → List Row → List U → List Row
  | [], vs, _ => vs
  | (r, cs) :: l, vs, .i n :: us => mkRw l (vs.modify r fun b => { b with n := .s n, ct := .cols (CSh.mks cs us).1 }) (CSh.mks cs us).2
  | _, vs, _ => vs
def tmpsOf (l : List Operand) : List Nat := l.filterMap fun | .tmp t => some t | _ => none
def usesO (l : List Oper) : List Nat := l.flatMap fun o => tmpsOf o.op.operands.toList
def asgC : Code → List Nat
  | .region _ ops _ => ops.toList.filterMap (·.dst)
  | .seq a b => asgC a ++ asgC b
  | .cond _ a b => asgC a ++ asgC b
  | .block _ a => asgC a
  | .loop a => asgC a
  | .scope a => asgC a
  | _ => []
def usesC : Code → List Nat
  | .region _ ops _ => usesO ops.toList
  | .seq a b => usesC a ++ usesC b
  | .cond x a b => tmpsOf [x] ++ (usesC a ++ usesC b)
  | .block _ a => usesC a
  | .loop a => usesC a
  | .scope a => usesC a
  | _ => []
def usesI : List It → List Nat
  | [] => []
  | .code c :: k => usesC c ++ usesI k
  | .inLoop c :: k => usesC c ++ usesI k
  | .ops _ r :: k => usesO r ++ usesI k
  | .openR _ ops _ :: k => usesO ops.toList ++ usesI k
  | .pickR _ ops _ _ :: k => usesO ops.toList ++ usesI k
  | .inBlock _ :: k => usesI k
def keepT (asg used : List Nat) : Nat → List V → List V
  | _, [] => []
  | i, v :: vs => (if asg.contains i then .junk else if used.contains i then (match v with | .v (.tuple _) => .junk | v => v) else .junk) :: keepT asg used (i + 1) vs
def nilsS : List (Nat × Nat × Nat) → S → Option S
  | [], s => some s
  | (i, e, sz) :: l, s => match s.tmps[i]? with
    | some (.v (.slice none 0 0)) => nilsS l { s with tmps := s.tmps.set i (.own s.rows.length), rows := s.rows ++ [⟨true, e, sz, .l 0, .list []⟩] }
    | _ => none
/-- The state at a loop's head. -/
def LAnn.head (A : LAnn) (asg used : List Nat) (s : S) (us : List U) : S :=
  let t := mkT A.tmps (keepT asg used 0 s.tmps) us
  let v := mkVr A.vars s.vars t.2
  { tmps := t.1, vars := v.1, rows := mkRw A.rows s.rows v.2, needs := [] }

/-! ### The proposition -/
abbrev Stk := List (Code × List It × (S → Prop))
def full : Stk → List It
  | [] => []
  | (cd, k, _) :: r => .inLoop cd :: (k ++ full r)
def exitStk (id : Nat) : Stk → Option (List It × Stk)
  | [] => none
  | (_, k, _) :: r => match exitIt id k with
    | some k' => some (k', r)
    | none => exitStk id r
theorem exitStk_full {id : Nat} : ∀ {stk : Stk} {k' : List It} {r : Stk}, exitStk id stk = some (k', r) → exitIt id (full stk) = some (k' ++ full r) ∧ ∃ pre, stk = pre ++ r
  | [], _, _, h => by simp [exitStk] at h
  | (cd, k, bk) :: stk, k', r, h => by
    simp only [exitStk] at h
    simp only [full, exitIt, exitIt_append]
    split at h
    · rename_i k2 hk
      obtain ⟨rfl, rfl⟩ := Prod.mk.inj (Option.some.inj h)
      rw [hk]
      exact ⟨rfl, [_], rfl⟩
    · rename_i hk
      rw [hk]
      obtain ⟨h1, pre, h2⟩ := exitStk_full h
      exact ⟨h1, _ :: pre, by rw [h2]; rfl⟩
def usesS : Stk → List Nat
  | [] => []
  | (cd, k, _) :: r => usesC cd ++ (usesI k ++ usesS r)
def usesR : List ResultVar → List Nat
  | [] => []
  | .tmp t :: r => t :: usesR r
  | .cell a _ :: r => a :: usesR r
def allL {α : Type} (f : α → Prop) : List α → Prop
  | [] => True
  | [x] => f x
  | x :: xs => f x ∧ allL f xs
theorem allL_iff {α : Type} {f : α → Prop} : ∀ {l : List α}, allL f l → ∀ x ∈ l, f x
  | [], _, x, hx => by cases hx
  | [y], h, x, hx => by
    obtain rfl : x = y := by simpa using hx
    exact h
  | y :: z :: l, h, x, hx => by
    rcases List.mem_cons.1 hx with rfl | hx
    · exact h.1
    · exact allL_iff h.2 x hx
def unf (Λ : List (Nat × LAnn)) : Option Nat → Bool
  | some id => (lookN Λ id).isNone
  | none => true

section
/-- Ways that are never gone: the branches taken, the latest one first. -/
def deadB (D : List (List Bool)) (p : List Bool) : Bool := D.any fun q => q == p
variable (T : TypeId → TI) (res : List ResultVar) (Γ : List (FuncId × Con)) (Λ : List (Nat × LAnn)) (D : List (List Bool)) (fin : List V → S → Prop)
def VC : Nat → List Bool → Stk → List It → S → Prop
  | 0, _, _, _, _ => False
  | n + 1, pa, stk, its, s => match run T res (unf Λ) 100000 its s with
    | .base s => needsP s.needs (match stk with
      | [] => match resVs T s res with | some vs => fin vs s.bare | none => False
      | (_, _, bk) :: _ => bk s.bare)
    | .ret vs s => needsP s.needs (fin vs s.bare)
    | .branch b t1 s1 t2 s2 => needsP s1.needs ((b = true → if deadB D (true :: pa) then False else VC n (true :: pa) stk t1 s1.bare) ∧ (b = false → if deadB D (false :: pa) then False else VC n (false :: pa) stk t2 s2.bare))
    | .call g args dst _ t s => needsP s.needs (match lookN Γ g with
      | some k => match Sh.rds s.bare k.args args with
        | some us => k.pre us ∧ allU k.outs fun os => k.post us os → VC n pa stk t (({ s.bare with rows := s.rows ++ k.rows us os } : S).put dst (shift s.rows.length (k.ret us os)))
        | none => False
      | none => False)
    | .out id s => needsP s.needs (match exitStk id stk with
      | some (k, r) => VC n pa r k s.bare
      | none => False)
    | .loop cd t s => needsP s.needs (match idOf t with
      | some id => match lookN Λ id with
        | some A => match nilsS A.nils s.bare with
          | some s1 =>
            let used := usesC cd ++ (usesI t ++ (usesS stk ++ usesR res))
            let asg := asgC cd
            match A.rd s1 with
            | some us0 => ∃ Inv : List U → Prop, ∃ μ : List U → Nat, chk s1 (A.head asg used s1 us0) (Inv us0) ∧
              allU A.kn fun us => Inv us → VC n pa ((cd, t, fun s' => match A.rd s' with | some us' => chk s' (A.head asg used s1 us') (Inv us' ∧ μ us' < μ us) | none => False) :: stk) [.code cd] (A.head asg used s1 us)
            | none => False
          | none => False
        | none => False
      | none => False)
    | .fork ts s => needsP s.needs (allL (fun t => VC n pa stk t s.bare) ts)
    | _ => False
end

section
variable {P : Program} {T : TypeId → TI} (hT : TabOK P T) {w0 : World} {fp : Nat → Prop} {f : FuncId} {R : Ending → World → Prop} {fn : Func}
def StkOK (P : Program) (f : FuncId) (w0 : World) (fp : Nat → Prop) (R : Ending → World → Prop) : Stk → Prop
  | [] => True
  | (cd, k, bk) :: r => (∀ s, bk s → GoesS P f w0 fp R (.inLoop cd :: (k ++ full r)) s) ∧ StkOK P f w0 fp R r
theorem StkOK.drop : ∀ {pre r : Stk}, StkOK P f w0 fp R (pre ++ r) → StkOK P f w0 fp R r
  | [], _, h => h
  | _ :: pre, _, h => StkOK.drop (pre := pre) h.2
theorem nilsS_sound {its : List It} : ∀ {l : List (Nat × Nat × Nat)} {s s1 : S}, nilsS l s = some s1 → GoesS P f w0 fp R its s1 → GoesS P f w0 fp R its s
  | [], s, s1, h, hG => by
    obtain rfl := Option.some.inj h
    exact hG
  | (i, e, sz) :: l, s, s1, h, hG => by
    simp only [nilsS] at h
    split at h
    · rename_i hv
      exact GoesS.nilRow i e sz hv (nilsS_sound h hG)
    · cases h
def GOK (P : Program) (Γ : List (FuncId × Con)) : Prop := ∀ g k, lookN Γ g = some k → Callable P g ∧ k.ok P g ∧ Sh.closeds k.args = true
mutual
theorem Sh.rd_kn {s : S} : ∀ (sh : Sh) (v : V) (us : List U), sh.rd s v = some us → us.map U.kn = sh.kn
  | .i k, v, us, hr => by
    simp only [Sh.rd] at hr
    split at hr
    · split at hr
      · obtain rfl := Option.some.inj hr; rfl
      · cases hr
    · cases hr
  | .b, v, us, hr => by
    simp only [Sh.rd] at hr
    split at hr
    · obtain rfl := Option.some.inj hr; rfl
    · cases hr
  | .s, v, us, hr => by
    simp only [Sh.rd] at hr
    split at hr
    · obtain rfl := Option.some.inj hr; rfl
    · cases hr
  | .ro cols, v, us, hr => by
    simp only [Sh.rd] at hr
    split at hr
    case h_2 => cases hr
    obtain ⟨vs, hv, rfl⟩ := Option.map_eq_some_iff.1 hr
    simp [U.kn, Sh.kn, (CSh.rds_spec hv).1]
  | .agg shs, v, us, hr => by
    simp only [Sh.rd] at hr
    split at hr
    · simpa only [Sh.kn] using Sh.rds_kn shs _ us hr
    · cases hr
  | .is w, v, us, hr => by
    simp only [Sh.rd] at hr
    split at hr
    · obtain rfl := Option.some.inj hr; rfl
    · cases hr
theorem Sh.rds_kn {s : S} : ∀ (shs : List Sh) (vs : List V) (us : List U), Sh.rds s shs vs = some us → us.map U.kn = Sh.kns shs
  | [], [], us, hr => by obtain rfl := Option.some.inj hr; rfl
  | sh :: shs, v :: vs, us, hr => by
    simp only [Sh.rds] at hr
    split at hr
    case h_2 => cases hr
    rename_i us1 us2 h1 h2
    obtain rfl := Option.some.inj hr
    simp [Sh.kns, Sh.rd_kn sh v us1 h1, Sh.rds_kn shs vs us2 h2]
  | [], _ :: _, us, hr => by simp [Sh.rds] at hr
  | _ :: _, [], us, hr => by simp [Sh.rds] at hr
end
theorem cat2_kn {x y : Option (List U)} {us : List U} {kx ky : List Kn} (h : cat2 x y = some us) (hx : ∀ a, x = some a → a.map U.kn = kx) (hy : ∀ a, y = some a → a.map U.kn = ky) : us.map U.kn = kx ++ ky := by
  cases x with
  | none => cases h
  | some a => cases y with
    | none => cases h
    | some b =>
      obtain rfl := Option.some.inj h
      simp [hx a rfl, hy b rfl]
theorem rdT_kn {s : S} : ∀ {l : List (Nat × Sh)} {us : List U}, rdT s l = some us → us.map U.kn = knT l
  | [], us, h => by obtain rfl := Option.some.inj h; rfl
  | (i, a) :: l, us, h => cat2_kn h (fun _ h => Sh.rd_kn _ _ _ h) (fun _ h => rdT_kn h)
theorem rdV_kn {s : S} : ∀ {l : List (Nat × Nat × Sh)} {us : List U}, rdV s l = some us → us.map U.kn = knV l
  | [], us, h => by obtain rfl := Option.some.inj h; rfl
  | (x, j, a) :: l, us, h => cat2_kn h (fun b hb => by
      split at hb
      · exact Sh.rd_kn _ _ _ hb
      · cases hb) (fun _ h => rdV_kn h)
theorem rdR_kn {s : S} : ∀ {l : List (Nat × List CSh)} {us : List U}, rdR s l = some us → us.map U.kn = knR l
  | [], us, h => by obtain rfl := Option.some.inj h; rfl
  | (r, cs) :: l, us, h => by
    have := cat2_kn (kx := .i :: CSh.kns cs) h (fun b hb => by
      split at hb
      · obtain ⟨vs, hv, rfl⟩ := Option.map_eq_some_iff.1 hb
        simp [U.kn, (CSh.rds_spec hv).1]
      · cases hb) (fun _ h => rdR_kn h)
    simpa [knR] using this
theorem LAnn.rd_kn {A : LAnn} {s : S} {us : List U} (h : A.rd s = some us) : us.map U.kn = A.kn :=
  cat2_kn h (fun _ h => rdT_kn h) (fun _ h => cat2_kn h (fun _ h => rdV_kn h) (fun _ h => rdR_kn h))
omit hT in
theorem resVs_bare {s : S} : ∀ rs : List ResultVar, resVs T s.bare rs = resVs T s rs
  | [] => rfl
  | r :: rs => by
    have : resV T s.bare r = resV T s r := by cases r <;> rfl
    simp only [resVs, this, resVs_bare rs]
include hT in
theorem GoesS.end_ {s : S} {vs : List V} (hfn : P.funcs[f]? = some fn) (hr : resVs T s fn.results.toList = some vs) (hf : Fin w0 fp R vs s) : GoesS P f w0 fp R [] s := by
  intro p c a ht hh
  cases p with
  | items todo =>
    have : todo = [] := by simpa [Pos.its] using ht
    subst this
    obtain ⟨us, h1, h2⟩ := results_sound hT hh hr
    exact Goes.done hfn hh.defers h1 (hf c a us hh h2)
  | open_ => cases ht
  | pick => cases ht
include hT in
theorem VC_sound {Γ : List (FuncId × Con)} {Λ : List (Nat × LAnn)} {D : List (List Bool)} {fin : List V → S → Prop} (hm : P.follows .mixedOrders = true) (hfn : P.funcs[f]? = some fn) (hΓ : GOK P Γ) (hfin : ∀ vs s, fin vs s → Fin w0 fp R vs s) :
    ∀ (n : Nat) (pa : List Bool) (stk : Stk) (its : List It) (s : S), VC T fn.results.toList Γ Λ D fin n pa stk its s → StkOK P f w0 fp R stk → GoesS P f w0 fp R (its ++ full stk) s := by
  intro n
  induction n with
  | zero => intro pa stk its s h; exact h.elim
  | succ n ih =>
    intro pa stk its s h hstk
    refine run_sound hT hm hfn (un := unf Λ) 100000 its s ?_ ?_
    · -- what is asked for
      unfold VC at h
      split at h
      case h_8 => exact h.elim
      all_goals
        rename_i hr
        rw [hr]
        exact (needsP_iff.1 h).1
    · unfold VC at h
      split at h
      case h_1 s' hr =>
        rw [hr]
        obtain ⟨_, h⟩ := needsP_iff.1 h
        simp only [Out.good]
        cases stk with
        | nil =>
          simp only at h
          split at h
          · rename_i vs hvs
            exact GoesS.end_ hT hfn (by rw [resVs_bare]; exact hvs) (hfin _ _ h)
          · exact h.elim
        | cons e r =>
          obtain ⟨cd, k, bk⟩ := e
          exact hstk.1 _ h
      case h_2 vs s' hr =>
        rw [hr]
        exact hfin _ _ (needsP_iff.1 h).2
      case h_3 b t1 s1 t2 s2 hr =>
        rw [hr]
        obtain ⟨_, h1, h2⟩ := needsP_iff.1 h
        refine ⟨fun e => ?_, fun e => ?_⟩
        · have := h1 e
          split at this
          · exact this.elim
          · exact ih _ _ _ _ this hstk
        · have := h2 e
          split at this
          · exact this.elim
          · exact ih _ _ _ _ this hstk
      case h_4 g args dst ask t s' hr =>
        rw [hr]
        obtain ⟨_, h⟩ := needsP_iff.1 h
        split at h
        case h_2 => exact h.elim
        rename_i k hk
        split at h
        case h_2 => exact h.elim
        rename_i us hus
        obtain ⟨q1, q2, q3⟩ := hΓ g k hk
        exact CallGood.of q1 q2 q3 hus h.1 (fun os ho hp => ih _ _ _ _ (allU_spec h.2 os ho hp) hstk)
      case h_5 id s' hr =>
        rw [hr]
        obtain ⟨_, h⟩ := needsP_iff.1 h
        split at h
        case h_2 => exact h.elim
        rename_i k r he
        obtain ⟨e1, pre, e2⟩ := exitStk_full he
        refine ⟨_, e1, ih _ _ _ _ h ?_⟩
        rw [e2] at hstk
        exact hstk.drop
      case h_6 cd t s' hr =>
        rw [hr]
        obtain ⟨_, h⟩ := needsP_iff.1 h
        split at h
        case h_2 => exact h.elim
        rename_i id hid
        split at h
        case h_2 => exact h.elim
        rename_i A hA
        split at h
        case h_2 => exact h.elim
        rename_i s1 hs1
        simp only at h
        split at h
        case h_2 => exact h.elim
        rename_i us0 hus0
        obtain ⟨Inv, μ, h0, hround⟩ := h
        obtain ⟨hI, hw⟩ := chk_sound h0
        refine nilsS_sound hs1 (GoesS.loop (σ := List U) (A.head (asgC cd) (usesC cd ++ (usesI t ++ (usesS stk ++ usesR fn.results.toList))) s1) (fun us => us.map U.kn = A.kn ∧ Inv us) μ us0 ⟨LAnn.rd_kn hus0, hI⟩ hw (fun us hus back => ?_))
        refine ih _ _ [.code cd] _ (allU_spec hround us hus.1 hus.2) ⟨fun s2 hs2 => ?_, hstk⟩
        dsimp only at hs2
        split at hs2
        · rename_i us' hus'
          obtain ⟨⟨hI', hlt⟩, hw'⟩ := chk_sound hs2
          exact GoesS.weaken hw' (back us' ⟨LAnn.rd_kn hus', hI'⟩ hlt)
        · exact hs2.elim
      case h_7 ts s' hr =>
        rw [hr]
        obtain ⟨_, h⟩ := needsP_iff.1 h
        exact fun t ht => ih _ _ _ _ (allL_iff h t ht) hstk
      case h_8 => exact h.elim
end

/-- Where a call begins. -/
def startS (fn : Func) (args : List V) : S := ⟨args ++ List.replicate (fn.ntmps - args.length) (.v undef), [], [], []⟩
/-- What is to be shown of a function for its contract. -/
def Con.vc (T : TypeId → TI) (fn : Func) (Γ : List (FuncId × Con)) (Λ : List (Nat × LAnn)) (D : List (List Bool)) (k : Con) : Prop :=
  allU (Sh.kns k.args) fun us => k.pre us → VC T fn.results.toList Γ Λ D (k.fin us) 100000 [] [] [.code (fn.body.getD .skip)] (startS fn (Sh.mks k.args us).1)
theorem Con.of_vc {P : Program} {T : TypeId → TI} {f : FuncId} {fn : Func} {Γ : List (FuncId × Con)} (Λ : List (Nat × LAnn)) (D : List (List Bool)) {k : Con} (hT : TabOK P T) (hm : P.follows .mixedOrders = true) (hfn : P.funcs[f]? = some fn) (hb : fn.body.isSome = true) (hΓ : GOK P Γ)
    (h : k.vc T fn Γ Λ D) : k.ok P f := by
  intro us hus hpre
  obtain ⟨code, hcode⟩ := Option.isSome_iff_exists.1 hb
  refine Ctr.of0 hfn hcode (fun w0 => ?_)
  have := VC_sound hT hm hfn hΓ (w0 := w0) (fp := fun _ => False) (fun vs s hf => Con.fin_sound hf) _ [] [] _ _ (allU_spec h us hus hpre) trivial
  simpa [hcode, full, startS] using this
theorem toVC {p q : Prop} (hp : p) (h : q = p) : q := h ▸ hp
theorem GOK.nil {P : Program} : GOK P [] := fun g k h => by simp [lookN] at h
theorem GOK.cons {P : Program} {g : FuncId} {k : Con} {Γ : List (FuncId × Con)} (h1 : Callable P g) (h2 : k.ok P g) (h3 : Sh.closeds k.args = true) (h : GOK P Γ) : GOK P ((g, k) :: Γ) := fun g' k' h' => by
  simp only [lookN] at h'
  split at h'
  · rename_i e
    obtain rfl := eq_of_beq e
    obtain rfl := Option.some.inj h'
    exact ⟨h1, h2, h3⟩
  · exact h g' k' h'
end Go.Dx
