/- Loops. -/
import Derived.Test.YtplefbcgpbdkfaaDoorFo
set_option linter.all false
namespace Go.Fx
open Go Go.RowKit

/-- What is carried through a loop: slots, variables, rows; 'nils': slots that hold nil and are to hold a row. -/
structure LAnn where
  nils : List (Nat × TypeId × Tp)
  tmps : List (Nat × Sh)
  vars : List (Nat × VP)
  rows : List Nat
  objs : List Nat := []
def mkT : List (Nat × Sh) → List V → List U → List V × List U
  | [], vs, us => (vs, us)
  | (i, a) :: l, vs, us => mkT l (vs.set i (a.mk us).1) (a.mk us).2
def mkVr : List (Nat × VP) → List Var → List U → List Var × List U
  | [], vs, us => (vs, us)
  | (x, a) :: l, vs, us => mkVr l (vs.set x (a.mk us).1) (a.mk us).2
def mkRw : List Nat → List Row → List U → List Row
  | r :: l, bs, u :: us => mkRw l (bs.modify r fun b => ⟨b.live, b.fix, b.e, b.t, .s ((u.as (.sl b.t)).length : Int), u.as (.sl b.t)⟩) us
  | _, bs, _ => bs
def mkOb : List Nat → List Ob → List U → List Ob
  | r :: l, bs, u :: us => mkOb l (bs.modify r fun b => ⟨b.live, b.k, b.t, u.as b.t⟩) us
  | _, bs, _ => bs
def rdT (σ : Sg) (nv nr nb : Nat) (vs : List V) : List (Nat × Sh) → Option (List U)
  | [] => some []
  | (i, a) :: l => match a.rd (fun t v => asD t v) σ nv nr nb (vs.getD i .junk), rdT σ nv nr nb vs l with
    | some us, some ws => some (us ++ ws)
    | _, _ => none
def rdVr (s : List Var) (σ : Sg) (nv nr nb : Nat) : List (Nat × VP) → Option (List U)
  | [] => some []
  | (x, a) :: l => match s[σ.sv x]? with
    | some b => if b.live then (match a.rd σ nv nr nb b, rdVr s σ nv nr nb l with
      | some us, some ws => some (us ++ ws)
      | _, _ => none) else none
    | none => none
def rdRow (s base : List Row) (σ : Sg) (r : Nat) : Option U :=
  match base[r]? with
  | some b0 => if b0.live then (match σ.sr r with
    | some r' => match s[r']? with
      | some b => if b.live && b.fix == b0.fix && b.e == b0.e then (if h : b.t.eq b0.t then some ⟨.sl b0.t, Tp.castL h b.l⟩ else none) else none
      | none => none
    | none => if b0.fix then none else some ⟨.sl b0.t, []⟩) else none
  | none => none
def rdRw (s base : List Row) (σ : Sg) : List Nat → Option (List U)
  | [] => some []
  | r :: l => match rdRow s base σ r, rdRw s base σ l with
    | some u, some us => some (u :: us)
    | _, _ => none
def rdOb1 (s base : List Ob) (σ : Sg) (x : Nat) : Option U :=
  match base[x]? with
  | some b0 => if b0.live then (match s[σ.so x]? with
    | some b => if b.live && decide (b.k = b0.k) then (if h : b.t.eq b0.t then some ⟨b0.t, Tp.cast h b.e⟩ else none) else none
    | none => none) else none
  | none => none
def rdOb (s base : List Ob) (σ : Sg) : List Nat → Option (List U)
  | [] => some []
  | x :: l => match rdOb1 s base σ x, rdOb s base σ l with
    | some u, some us => some (u :: us)
    | _, _ => none
/-- 'base': the state at the loop's beginning. -/
def LAnn.rd (A : LAnn) (σ : Sg) (base s : S) : Option (List U) :=
  match rdT σ base.vars.length base.rows.length base.objs.length s.tmps A.tmps, rdVr s.vars σ base.vars.length base.rows.length base.objs.length A.vars, rdRw s.rows base.rows σ A.rows, rdOb s.objs base.objs σ A.objs with
  | some a, some b, some c, some d => some (a ++ (b ++ (c ++ d)))
  | _, _, _, _ => none
def tmpsOf (l : List Operand) : List Nat := l.filterMap fun | .tmp t => some t | _ => none
def usesO (l : List Oper) : List Nat := l.flatMap fun o => tmpsOf o.op.operands.toList
def asgC : Code → List Nat
  | .region _ ops _ => ops.toList.filterMap (·.dst)
  | .seq a b => asgC a ++ asgC b
  | .cond _ a b => asgC a ++ asgC b
  | .block _ a => asgC a
  | .loop a => asgC a
  | .scope a => asgC a
  | _ => []
def usesC : Code → List Nat
  | .region _ ops _ => usesO ops.toList
  | .seq a b => usesC a ++ usesC b
  | .cond x a b => tmpsOf [x] ++ (usesC a ++ usesC b)
  | .block _ a => usesC a
  | .loop a => usesC a
  | .scope a => usesC a
  | _ => []
def usesI : List It → List Nat
  | [] => []
  | .code c :: k => usesC c ++ usesI k
  | .inLoop c :: k => usesC c ++ usesI k
  | .ops _ r :: k => usesO r ++ usesI k
  | .openR _ ops _ _ :: k => usesO ops.toList ++ usesI k
  | .pickR _ ops _ _ _ :: k => usesO ops.toList ++ usesI k
  | .inBlock _ :: k => usesI k
def keepT (asg used : List Nat) : Nat → List V → List V
  | _, [] => []
  | i, v :: vs => (if asg.contains i then .junk else if used.contains i then (match v with | .v (.tuple _) => .junk | .rp _ _ _ _ => .junk | v => v) else .junk) :: keepT asg used (i + 1) vs
def nilsS : List (Nat × TypeId × Tp) → S → Option S
  | [], s => some s
  | (i, e, t) :: l, s => match s.tmps[i]? with
    | some (.v (.slice none 0 0)) => nilsS l { s with tmps := s.tmps.set i (.own s.rows.length), rows := s.rows ++ [⟨true, false, e, t, .l 0, []⟩] }
    | some (.own r) => (match s.rows[r]? with
      | some b => if b.live then nilsS l { s with vars := s.vars.map fun v => ⟨v.live, v.ct.bk r r b.t.size (.l 0) b.n⟩, rows := s.rows.set r { b with fix := true } } else none
      | none => none)
    | none => (match s.vars[(i - 10000) / 100]? with
      | some ⟨lv, .ls cs⟩ => (match cs[(i - 10000) % 100]? with
        | some (.v (.slice none 0 0)) => nilsS l { s with vars := s.vars.set ((i - 10000) / 100) ⟨lv, .ls (cs.set ((i - 10000) % 100) (.own s.rows.length))⟩, rows := s.rows ++ [⟨true, false, e, t, .l 0, []⟩] }
        | _ => none)
      | _ => none)
    | _ => none
/-- The state at a loop's head. -/
def LAnn.head (A : LAnn) (asg used : List Nat) (s : S) (us : List U) : S :=
  let t := mkT A.tmps (keepT asg used 0 s.tmps) us
  let v := mkVr A.vars s.vars t.2
  { tmps := t.1, vars := v.1, rows := mkRw A.rows s.rows v.2, objs := mkOb A.objs s.objs (v.2.drop A.rows.length), needs := [], lk := s.lk }
/-- The slots that are not carried: as the pattern says. -/
def chkT (σ : Sg) (nv nr nb : Nat) (car : List Nat) : Nat → List V → List V → Prop → Prop
  | _, [], vs, p => match vs with | [] => p | _ => False
  | i, w :: ws, vs, p => match vs with | v :: vs => if car.contains i then chkT σ nv nr nb car (i + 1) ws vs p else chkV σ nv nr nb w v (chkT σ nv nr nb car (i + 1) ws vs p) | [] => False
def chkVr (σ : Sg) (nv nr nb : Nat) (car : List Nat) (s : List Var) : Nat → List Var → Prop → Prop
  | _, [], p => p
  | k, b :: bs, p => if car.contains k then chkVr σ nv nr nb car s (k + 1) bs p else chkVars σ nv nr nb s k [b] (chkVr σ nv nr nb car s (k + 1) bs p)
def chkRw (σ : Sg) (car : List Nat) (s : List Row) : Nat → List Row → Prop → Prop
  | _, [], p => p
  | k, b :: bs, p => if car.contains k then chkRw σ car s (k + 1) bs p else chkRows σ s k [b] (chkRw σ car s (k + 1) bs p)
def chkOb (σ : Sg) (car : List Nat) (s : List Ob) : Nat → List Ob → Prop → Prop
  | _, [], p => p
  | k, b :: bs, p => if car.contains k then chkOb σ car s (k + 1) bs p else chkObjs σ s k [b] (chkOb σ car s (k + 1) bs p)
/-- Found by the shapes of what is carried. -/
def fdAV (s : List Var) : List (Nat × VP) → Sg → Sg
  | [], σ => σ
  | (x, p) :: l, σ => fdAV s l (match p, s[σ.sv x]? with | .ls shs, some b => fdSs shs b.ct.cells σ | _, _ => σ)
def LAnn.back (A : LAnn) (anc : Anc) (asg used : List Nat) (base s : S) (p : List U → Prop) : Prop :=
  let h0 := A.head asg used base []
  let σ := fdAV s.vars A.vars (fdVars s.vars 0 h0.vars (fdSs (A.tmps.map (·.2)) (A.tmps.map fun x => s.tmps.getD x.1 .junk) ⟨[], [], []⟩))
  match A.rd σ base s with
  | some us =>
    let h := A.head asg used base us
    if σ.ok base.vars.length base.rows.length base.objs.length && anc.ok σ h && decide (base.lk = s.lk) then
      chkT σ base.vars.length base.rows.length base.objs.length (A.tmps.map (·.1)) 0 h.tmps s.tmps (chkVr σ base.vars.length base.rows.length base.objs.length (A.vars.map (·.1)) s.vars 0 h.vars (chkRw σ A.rows s.rows 0 h.rows (chkOb σ A.objs s.objs 0 h.objs (p us))))
    else False
  | none => False

theorem mkT_length : ∀ (l : List (Nat × Sh)) (vs : List V) (us : List U), (mkT l vs us).1.length = vs.length
  | [], vs, us => rfl
  | (i, a) :: l, vs, us => by simp [mkT, mkT_length l]
theorem mkVr_length : ∀ (l : List (Nat × VP)) (vs : List Var) (us : List U), (mkVr l vs us).1.length = vs.length
  | [], vs, us => rfl
  | (i, a) :: l, vs, us => by simp [mkVr, mkVr_length l]
theorem mkRw_length : ∀ (l : List Nat) (bs : List Row) (us : List U), (mkRw l bs us).length = bs.length
  | [], bs, us => by cases us <;> rfl
  | r :: l, bs, [] => rfl
  | r :: l, bs, u :: us => by simp [mkRw, mkRw_length l]
theorem mkOb_length : ∀ (l : List Nat) (bs : List Ob) (us : List U), (mkOb l bs us).length = bs.length
  | [], bs, us => by cases us <;> rfl
  | r :: l, bs, [] => rfl
  | r :: l, bs, u :: us => by simp [mkOb, mkOb_length l]
theorem mkOb_like : ∀ (l : List Nat) (bs : List Ob) (us : List U) (x : Nat) (b : Ob), (mkOb l bs us)[x]? = some b → ∃ b0, bs[x]? = some b0 ∧ b.live = b0.live ∧ b.k = b0.k
  | [], bs, us, x, b, h => by cases us <;> exact ⟨b, h, rfl, rfl⟩
  | r :: l, bs, [], x, b, h => ⟨b, h, rfl, rfl⟩
  | r :: l, bs, u :: us, x, b, h => by
    simp only [mkOb] at h
    obtain ⟨d, hd, e1, e2⟩ := mkOb_like l _ us x b h
    rw [List.getElem?_modify] at hd
    obtain ⟨d0, hd0, e⟩ := Option.map_eq_some_iff.1 hd
    refine ⟨d0, hd0, ?_, ?_⟩
    · rw [e1, ← e]; split <;> rfl
    · rw [e2, ← e]; split <;> rfl
theorem rdOb_sound {σ : Sg} {s base0 : List Ob} : ∀ {l : List Nat} {us : List U}, rdOb s base0 σ l = some us → ∀ (base : List Ob), (∀ (r : Nat) (b : Ob), base[r]? = some b → ∃ b0, base0[r]? = some b0 ∧ b.live = b0.live ∧ b.k = b0.k ∧ b.t = b0.t) →
    ∀ (x : Nat) (b : Ob), (mkOb l base us)[x]? = some b → b.live = true → (l.contains x = true ∧ s[σ.so x]? = some b) ∨ (l.contains x = false ∧ base[x]? = some b)
  | [], us, h, base, _, x, b, hb, _ => by
    obtain rfl := Option.some.inj h
    exact .inr ⟨rfl, hb⟩
  | r :: l, us, h, base, hbase, x, b, hb, hl => by
    simp only [rdOb] at h
    split at h
    case h_2 => cases h
    rename_i u us2 h1 h2
    obtain rfl := Option.some.inj h
    simp only [mkOb] at hb
    have modGet : ∀ (y : Nat) (d : Ob), (base.modify r fun b => ⟨b.live, b.k, b.t, u.as b.t⟩)[y]? = some d → ∃ d0, base[y]? = some d0 ∧ ((y = r ∧ d = ⟨d0.live, d0.k, d0.t, u.as d0.t⟩) ∨ (y ≠ r ∧ d = d0)) := fun y d hd => by
      rw [List.getElem?_modify] at hd
      obtain ⟨d0, hd0, e⟩ := Option.map_eq_some_iff.1 hd
      refine ⟨d0, hd0, ?_⟩
      split at e
      · rename_i hy; exact .inl ⟨hy.symm, e.symm⟩
      · rename_i hy; exact .inr ⟨fun q => hy q.symm, e.symm⟩
    have hbase' : ∀ (y : Nat) (d : Ob), (base.modify r fun b => ⟨b.live, b.k, b.t, u.as b.t⟩)[y]? = some d → ∃ b0, base0[y]? = some b0 ∧ d.live = b0.live ∧ d.k = b0.k ∧ d.t = b0.t := fun y d hd => by
      obtain ⟨d0, hd0, hh⟩ := modGet y d hd
      obtain ⟨b0, e0, e1, e2, e3⟩ := hbase y d0 hd0
      rcases hh with ⟨_, rfl⟩ | ⟨_, rfl⟩
      · exact ⟨b0, e0, e1, e2, e3⟩
      · exact ⟨b0, e0, e1, e2, e3⟩
    rcases rdOb_sound h2 _ hbase' x b hb hl with ⟨c1, c2⟩ | ⟨c1, c2⟩
    · exact .inl ⟨by simp only [List.contains_cons, c1, Bool.or_true], c2⟩
    · obtain ⟨d0, hd0, hh⟩ := modGet x b c2
      rcases hh with ⟨rfl, rfl⟩ | ⟨hne, rfl⟩
      · refine .inl ⟨by simp, ?_⟩
        obtain ⟨b0, e0, e1, e2, e3⟩ := hbase x d0 hd0
        unfold rdOb1 at h1
        rw [e0] at h1
        simp only at h1
        split at h1
        case isFalse => cases h1
        split at h1
        case h_2 => cases h1
        rename_i b1 hb1
        split at h1
        case isFalse => cases h1
        rename_i hc
        simp only [Bool.and_eq_true, decide_eq_true_eq] at hc
        split at h1
        case isFalse => cases h1
        rename_i ht
        obtain rfl := Option.some.inj h1
        rw [hb1]
        obtain ⟨v1, k1, t1, w1⟩ := b1
        obtain ⟨v0, k0, t0, w0⟩ := b0
        obtain ⟨vd, kd, td, wd⟩ := d0
        simp only at e1 e2 e3 hc ht hl ⊢
        subst e3
        obtain rfl := Tp.of_eq ht
        simp only [U.as_self, Tp.cast_rfl]
        rw [hc.1, hc.2, hl, e2]
      · exact .inr ⟨by simp only [List.contains_cons, c1, Bool.or_false, beq_eq_false_iff_ne]; exact hne, hd0⟩
theorem chkOb_sound {σ : Sg} {car : List Nat} {s : List Ob} : ∀ {k : Nat} {bs : List Ob} {p : Prop}, chkOb σ car s k bs p → p ∧ ∀ (j : Nat) (b : Ob), bs[j]? = some b → b.live = true → car.contains (k + j) = false → s[σ.so (k + j)]? = some b
  | k, [], p, h => ⟨h, fun j b hb => by simp at hb⟩
  | k, b :: bs, p, h => by
    simp only [chkOb] at h
    split at h
    · rename_i hc
      obtain ⟨h1, h2⟩ := chkOb_sound h
      refine ⟨h1, fun j b0 hj hl hcj => ?_⟩
      cases j with
      | zero => rw [Nat.add_zero, hc] at hcj; cases hcj
      | succ j => rw [show k + (j + 1) = k + 1 + j from by omega] at hcj ⊢; exact h2 j b0 (by simpa using hj) hl hcj
    · obtain ⟨h0, h1⟩ := chkObjs_sound h
      obtain ⟨h2, h3⟩ := chkOb_sound h0
      refine ⟨h2, fun j b0 hj hl hcj => ?_⟩
      cases j with
      | zero => exact h1 0 b0 (by simpa using hj) hl
      | succ j => rw [show k + (j + 1) = k + 1 + j from by omega] at hcj ⊢; exact h3 j b0 (by simpa using hj) hl hcj
theorem rdRw_length {σ : Sg} {s base : List Row} : ∀ {l : List Nat} {us : List U}, rdRw s base σ l = some us → us.length = l.length
  | [], us, h => by obtain rfl := Option.some.inj h; rfl
  | r :: l, us, h => by
    simp only [rdRw] at h
    split at h
    case h_2 => cases h
    rename_i u us2 h1 h2
    obtain rfl := Option.some.inj h
    simp [rdRw_length h2]
theorem mkRw_append : ∀ (l : List Nat) (bs : List Row) (us w : List U), us.length = l.length → mkRw l bs (us ++ w) = mkRw l bs us
  | [], bs, us, w, h => by cases us <;> cases w <;> rfl
  | r :: l, bs, [], w, h => by cases h
  | r :: l, bs, u :: us, w, h => by simp only [List.cons_append, mkRw]; exact mkRw_append l _ us w (by simpa using h)
theorem keepT_length (asg used : List Nat) : ∀ (i : Nat) (vs : List V), (keepT asg used i vs).length = vs.length
  | _, [] => rfl
  | i, v :: vs => by simp [keepT, keepT_length asg used (i + 1) vs]

section
variable {P : Program} {T : TypeId → TI} {w0 : World} {fp : Base} {c : C} {s t : S} {a a' : Act} {f : FuncId} {R : Ending → World → Prop}

theorem asD_ren {σ : Sg} {nv nr nb : Nat} {t : Tp} {v : V} {u : Value} {d : t.T} (hd : asD t v = some d) (hr : RV c v u) : RV (c.ren σ nv nr nb) (toV t d) u := by
  have h := asD_RV hr hd
  have le := c.ren_le0 σ nv nr nb
  cases t with
  | i k => simpa only [toV, RV] using h
  | bo => simpa only [toV, RV] using h
  | tx => simpa only [toV, RV] using h
  | pt => simpa only [toV, RV] using h
  | p x y => simp only [toV, RV] at h ⊢; obtain ⟨us, e, hq⟩ := h; exact ⟨us, e, hq.le le⟩
  | sl t => simp only [toV, RV] at h ⊢; exact ⟨h.1, h.2.le le⟩
  | opt t => simp [toV, RV]
theorem rdT_sound {σ : Sg} {nv nr nb : Nat} {vs : List V} {xs : List Value} (hxs : RVs c vs xs) : ∀ {l : List (Nat × Sh)} {us : List U}, rdT σ nv nr nb vs l = some us → ∀ (base : List V) (w : List U), base.length = vs.length →
    (mkT l base (us ++ w)).2 = w ∧ ∀ (i : Nat) (v : V), (mkT l base (us ++ w)).1[i]? = some v → ((l.map (·.1)).contains i = true ∧ RV (c.ren σ nv nr nb) v (xs.getD i undef)) ∨ ((l.map (·.1)).contains i = false ∧ base[i]? = some v)
  | [], us, h, base, w, _ => by
    obtain rfl := Option.some.inj h
    exact ⟨rfl, fun i v hv => .inr ⟨rfl, hv⟩⟩
  | (j, a) :: l, us, h, base, w, hb => by
    simp only [rdT] at h
    split at h
    case h_2 => cases h
    rename_i us1 us2 h1 h2
    obtain rfl := Option.some.inj h
    obtain ⟨v', e, hv'⟩ := Sh.rd_sound (c := c) (c1 := c.ren σ nv nr nb) (fun v u h => h) (fun t v d u hd hr => asD_ren hd hr) a _ us1 h1 (us2 ++ w)
    have hj := hv' _ (hxs.getD j undef)
    simp only [mkT, List.append_assoc, e]
    obtain ⟨q1, q2⟩ := rdT_sound hxs h2 (base.set j v') w (by simpa using hb)
    refine ⟨q1, fun i v hv => ?_⟩
    rcases q2 i v hv with ⟨c1, c2⟩ | ⟨c1, c2⟩
    · exact .inl ⟨by simp only [List.map_cons, List.contains_cons, c1, Bool.or_true], c2⟩
    · rcases set_get c2 with ⟨rfl, rfl⟩ | ⟨hne, c2⟩
      · exact .inl ⟨by simp, hj⟩
      · exact .inr ⟨by simp only [List.map_cons, List.contains_cons, c1, Bool.or_false, beq_eq_false_iff_ne]; exact Ne.symm hne, c2⟩
theorem VP.rd_ren {σ : Sg} {nv nr nb : Nat} {b : Var} {p : VP} {us : List U} (hd : p.rd σ nv nr nb b = some us) : ∀ l, ∃ b' : Var, p.mk (us ++ l) = (b', l) ∧ ∀ xs, RCt c b.ct xs → RCt (c.ren σ nv nr nb) b'.ct xs := by
  cases p with
  | pk t =>
    simp only [VP.rd] at hd
    split at hd
    · rename_i q e hct
      split at hd
      · rename_i ht
        obtain rfl := Option.some.inj hd
        refine fun l => ⟨⟨true, .pk t (Tp.cast ht e)⟩, by simp [VP.mk, U.as_self], fun xs hx => ?_⟩
        rw [hct] at hx
        exact Rp.cast ht (Rp.le (c.ren_le0 σ nv nr nb) hx)
      · cases hd
    · rename_i l0 hct
      obtain ⟨d, hd', rfl⟩ := Option.map_eq_some_iff.1 hd
      refine fun l => ⟨⟨true, .pk t d⟩, by simp [VP.mk, U.as_self], fun xs hx => ?_⟩
      rw [hct] at hx
      exact (asDl_sound hx hd').le (c.ren_le0 σ nv nr nb)
  | ls shs =>
    simp only [VP.rd] at hd
    intro l
    obtain ⟨vs', e, hs⟩ := Sh.rds_sound (c := c) (c1 := c.ren σ nv nr nb) (fun v u h => h) (fun t v d u hd hr => asD_ren hd hr) shs _ _ hd l
    exact ⟨⟨true, .ls vs'⟩, by simp only [VP.mk, e], fun xs hx => hs xs hx.cells⟩
theorem rdVr_sound {σ : Sg} {nv nr nb : Nat} {s : List Var} : ∀ {l : List (Nat × VP)} {us : List U}, rdVr s σ nv nr nb l = some us → ∀ (base : List Var) (w : List U),
    (mkVr l base (us ++ w)).2 = w ∧ ∀ (x : Nat) (b : Var), (mkVr l base (us ++ w)).1[x]? = some b → ((l.map (·.1)).contains x = true ∧ ∃ b' : Var, s[σ.sv x]? = some b' ∧ b'.live = true ∧ ∀ xs, RCt c b'.ct xs → RCt (c.ren σ nv nr nb) b.ct xs) ∨ ((l.map (·.1)).contains x = false ∧ base[x]? = some b)
  | [], us, h, base, w => by
    obtain rfl := Option.some.inj h
    exact ⟨rfl, fun i v hv => .inr ⟨rfl, hv⟩⟩
  | (j, a) :: l, us, h, base, w => by
    simp only [rdVr] at h
    split at h
    case h_2 => cases h
    rename_i b0 hb0
    split at h
    case isFalse => cases h
    rename_i hl0
    split at h
    case h_2 => cases h
    rename_i us1 us2 h1 h2
    obtain rfl := Option.some.inj h
    obtain ⟨b', e, hb'⟩ := VP.rd_ren (c := c) h1 (us2 ++ w)
    simp only [mkVr, List.append_assoc, e]
    obtain ⟨q1, q2⟩ := rdVr_sound h2 (base.set j b') w
    refine ⟨q1, fun x b hb => ?_⟩
    rcases q2 x b hb with ⟨c1, c2⟩ | ⟨c1, c2⟩
    · exact .inl ⟨by simp only [List.map_cons, List.contains_cons, c1, Bool.or_true], c2⟩
    · rcases set_get c2 with ⟨rfl, rfl⟩ | ⟨hne, c2⟩
      · exact .inl ⟨by simp, b0, hb0, hl0, hb'⟩
      · exact .inr ⟨by simp only [List.map_cons, List.contains_cons, c1, Bool.or_false, beq_eq_false_iff_ne]; exact Ne.symm hne, c2⟩
def RowFact (s : List Row) (σ : Sg) (x : Nat) (b : Row) : Prop :=
  (∃ r b', σ.sr x = some r ∧ s[r]? = some b' ∧ b'.live = true ∧ b'.fix = b.fix ∧ b'.e = b.e ∧ b'.n.val = b.n.val ∧ ∃ h : b'.t.eq b.t = true, Tp.castL h b'.l = b.l) ∨ (σ.sr x = none ∧ b.fix = false ∧ b.l = [] ∧ b.n.val = 0)
theorem rdRw_sound {σ : Sg} {s : List Row} (hlen : ∀ (r : Nat) (b : Row), s[r]? = some b → b.live = true → b.n.val = b.l.length) {base0 : List Row} : ∀ {l : List Nat} {us : List U}, rdRw s base0 σ l = some us → ∀ (base : List Row), (∀ (r : Nat) (b : Row), base[r]? = some b → ∃ b0, base0[r]? = some b0 ∧ b.live = b0.live ∧ b.fix = b0.fix ∧ b.e = b0.e ∧ b.t = b0.t) →
    ∀ (x : Nat) (b : Row), (mkRw l base us)[x]? = some b → (l.contains x = true ∧ RowFact s σ x b) ∨ (l.contains x = false ∧ base[x]? = some b)
  | [], us, h, base, _, x, b, hb => by
    obtain rfl := Option.some.inj h
    exact .inr ⟨rfl, hb⟩
  | r :: l, us, h, base, hbase, x, b, hb => by
    simp only [rdRw] at h
    split at h
    case h_2 => cases h
    rename_i u us2 h1 h2
    obtain rfl := Option.some.inj h
    simp only [mkRw] at hb
    have modGet : ∀ (y : Nat) (d : Row), (base.modify r fun b => ⟨b.live, b.fix, b.e, b.t, .s ((u.as (.sl b.t)).length : Int), u.as (.sl b.t)⟩)[y]? = some d → ∃ d0, base[y]? = some d0 ∧ ((y = r ∧ d = ⟨d0.live, d0.fix, d0.e, d0.t, .s ((u.as (.sl d0.t)).length : Int), u.as (.sl d0.t)⟩) ∨ (y ≠ r ∧ d = d0)) := fun y d hd => by
      rw [List.getElem?_modify] at hd
      obtain ⟨d0, hd0, e⟩ := Option.map_eq_some_iff.1 hd
      refine ⟨d0, hd0, ?_⟩
      split at e
      · rename_i hy; exact .inl ⟨hy.symm, e.symm⟩
      · rename_i hy; exact .inr ⟨fun q => hy q.symm, e.symm⟩
    have hbase' : ∀ (y : Nat) (d : Row), (base.modify r fun b => ⟨b.live, b.fix, b.e, b.t, .s ((u.as (.sl b.t)).length : Int), u.as (.sl b.t)⟩)[y]? = some d → ∃ b0, base0[y]? = some b0 ∧ d.live = b0.live ∧ d.fix = b0.fix ∧ d.e = b0.e ∧ d.t = b0.t := fun y d hd => by
      obtain ⟨d0, hd0, hh⟩ := modGet y d hd
      obtain ⟨b0, e0, e1, e2, e3, e4⟩ := hbase y d0 hd0
      rcases hh with ⟨_, rfl⟩ | ⟨_, rfl⟩
      · exact ⟨b0, e0, e1, e2, e3, e4⟩
      · exact ⟨b0, e0, e1, e2, e3, e4⟩
    rcases rdRw_sound hlen h2 _ hbase' x b hb with ⟨c1, c2⟩ | ⟨c1, c2⟩
    · exact .inl ⟨by simp only [List.contains_cons, c1, Bool.or_true], c2⟩
    · obtain ⟨d0, hd0, hh⟩ := modGet x b c2
      rcases hh with ⟨rfl, rfl⟩ | ⟨hne, rfl⟩
      · refine .inl ⟨by simp, ?_⟩
        obtain ⟨b0, e0, e1, e2, e3, e4⟩ := hbase x d0 hd0
        unfold rdRow at h1
        rw [e0] at h1
        simp only at h1
        split at h1
        case isFalse => cases h1
        split at h1
        · rename_i r' hr'
          split at h1
          case h_2 => cases h1
          rename_i b1 hb1
          split at h1
          case isFalse => cases h1
          rename_i hc
          simp only [Bool.and_eq_true, beq_iff_eq] at hc
          split at h1
          case isFalse => cases h1
          rename_i ht
          obtain rfl := Option.some.inj h1
          have ht' : b1.t.eq d0.t = true := by rw [e4]; exact ht
          refine .inl ⟨r', b1, hr', hb1, hc.1.1, by rw [e2]; exact hc.1.2, by rw [e3]; exact hc.2, ?_, ht', ?_⟩
          · show b1.n.val = ((U.as (.sl d0.t) ⟨.sl b0.t, Tp.castL ht b1.l⟩).length : Int)
            have : ∀ (q : Tp) (hq : q = b0.t), (U.as (.sl q) ⟨.sl b0.t, Tp.castL ht b1.l⟩).length = b1.l.length := fun q hq => by subst hq; rw [U.as_self, Tp.castL_length]
            rw [this d0.t e4]
            exact hlen r' b1 hb1 hc.1.1
          · show Tp.castL ht' b1.l = U.as (.sl d0.t) ⟨.sl b0.t, Tp.castL ht b1.l⟩
            have : ∀ (q : Tp) (hq : q = b0.t) (h' : b1.t.eq q = true), Tp.castL h' b1.l = U.as (.sl q) ⟨.sl b0.t, Tp.castL ht b1.l⟩ := fun q hq h' => by subst hq; rw [U.as_self]
            exact this d0.t e4 ht'
        · rename_i hr'
          split at h1
          · cases h1
          rename_i hf
          obtain rfl := Option.some.inj h1
          have : ∀ (q : Tp) (hq : q = b0.t), U.as (.sl q) ⟨.sl b0.t, []⟩ = [] := fun q hq => by subst hq; rw [U.as_self]
          refine .inr ⟨hr', by rw [e2]; simpa using hf, this d0.t e4, ?_⟩
          show ((U.as (.sl d0.t) ⟨.sl b0.t, []⟩).length : Int) = 0
          rw [this d0.t e4]; rfl
      · exact .inr ⟨by simp only [List.contains_cons, c1, Bool.or_false, beq_eq_false_iff_ne]; exact hne, hd0⟩
theorem chkT_sound {σ : Sg} {nv nr nb : Nat} {car : List Nat} : ∀ {i : Nat} {ws vs : List V} {p : Prop}, chkT σ nv nr nb car i ws vs p → p ∧ ∀ (c : C) (xs : List Value), RVs c vs xs → (∀ j w, ws[j]? = some w → car.contains (i + j) = true → RV (c.ren σ nv nr nb) w (xs.getD j undef)) → RVs (c.ren σ nv nr nb) ws xs
  | i, [], vs, p, h => by
    simp only [chkT] at h
    split at h
    · exact ⟨h, fun c xs hx _ => by simpa only [RVs] using hx⟩
    · exact h.elim
  | i, w :: ws, vs, p, h => by
    simp only [chkT] at h
    split at h
    case h_2 => exact h.elim
    rename_i v vs
    split at h
    · rename_i hc
      obtain ⟨h1, h2⟩ := chkT_sound h
      refine ⟨h1, fun c xs hx hcar => ?_⟩
      simp only [RVs] at hx ⊢
      obtain ⟨u, us, rfl, hu, hs⟩ := hx
      exact ⟨u, us, rfl, by simpa using hcar 0 w rfl hc, h2 c us hs (fun j w' hj hcj => by simpa using hcar (j + 1) w' (by simpa using hj) (by rw [show i + (j + 1) = i + 1 + j from by omega]; exact hcj))⟩
    · rename_i hc
      obtain ⟨h0, h1⟩ := chkV_sound _ _ _ h
      obtain ⟨h2, h3⟩ := chkT_sound h0
      refine ⟨h2, fun c xs hx hcar => ?_⟩
      simp only [RVs] at hx ⊢
      obtain ⟨u, us, rfl, hu, hs⟩ := hx
      exact ⟨u, us, rfl, h1 c u hu, h3 c us hs (fun j w' hj hcj => by simpa using hcar (j + 1) w' (by simpa using hj) (by rw [show i + (j + 1) = i + 1 + j from by omega]; exact hcj))⟩
theorem chkVr_sound {σ : Sg} {nv nr nb : Nat} {car : List Nat} {s : List Var} : ∀ {k : Nat} {bs : List Var} {p : Prop}, chkVr σ nv nr nb car s k bs p → p ∧ ∀ (j : Nat) (b : Var), bs[j]? = some b → b.live = true → car.contains (k + j) = false → ∃ b' : Var, s[σ.sv (k + j)]? = some b' ∧ b'.live = true ∧ ∀ (c : C) (us : List Value), RCt c b'.ct us → RCt (c.ren σ nv nr nb) b.ct us
  | k, [], p, h => ⟨h, fun j b hb => by simp at hb⟩
  | k, b :: bs, p, h => by
    simp only [chkVr] at h
    split at h
    · rename_i hc
      obtain ⟨h1, h2⟩ := chkVr_sound h
      refine ⟨h1, fun j b0 hj hl hcj => ?_⟩
      cases j with
      | zero => rw [Nat.add_zero, hc] at hcj; cases hcj
      | succ j => rw [show k + (j + 1) = k + 1 + j from by omega] at hcj ⊢; exact h2 j b0 (by simpa using hj) hl hcj
    · obtain ⟨h0, h1⟩ := chkVars_sound h
      obtain ⟨h2, h3⟩ := chkVr_sound h0
      refine ⟨h2, fun j b0 hj hl hcj => ?_⟩
      cases j with
      | zero => exact h1 0 b0 (by simpa using hj) hl
      | succ j => rw [show k + (j + 1) = k + 1 + j from by omega] at hcj ⊢; exact h3 j b0 (by simpa using hj) hl hcj
theorem chkRw_sound {σ : Sg} {car : List Nat} {s : List Row} : ∀ {k : Nat} {bs : List Row} {p : Prop}, chkRw σ car s k bs p → p ∧ ∀ (j : Nat) (b : Row), bs[j]? = some b → b.live = true → car.contains (k + j) = false → RowFact s σ (k + j) b
  | k, [], p, h => ⟨h, fun j b hb => by simp at hb⟩
  | k, b :: bs, p, h => by
    simp only [chkRw] at h
    split at h
    · rename_i hc
      obtain ⟨h1, h2⟩ := chkRw_sound h
      refine ⟨h1, fun j b0 hj hl hcj => ?_⟩
      cases j with
      | zero => rw [Nat.add_zero, hc] at hcj; cases hcj
      | succ j => rw [show k + (j + 1) = k + 1 + j from by omega] at hcj ⊢; exact h2 j b0 (by simpa using hj) hl hcj
    · obtain ⟨h0, h1⟩ := chkRows_sound h
      obtain ⟨h2, h3⟩ := chkRw_sound h0
      refine ⟨h2, fun j b0 hj hl hcj => ?_⟩
      cases j with
      | zero => exact h1 0 b0 (by simpa using hj) hl
      | succ j => rw [show k + (j + 1) = k + 1 + j from by omega] at hcj ⊢; exact h3 j b0 (by simpa using hj) hl hcj
theorem mkRw_like : ∀ (l : List Nat) (bs : List Row) (us : List U) (x : Nat) (b : Row), (mkRw l bs us)[x]? = some b → ∃ b0, bs[x]? = some b0 ∧ b.live = b0.live ∧ b.fix = b0.fix
  | [], bs, us, x, b, h => by cases us <;> exact ⟨b, h, rfl, rfl⟩
  | r :: l, bs, [], x, b, h => ⟨b, h, rfl, rfl⟩
  | r :: l, bs, u :: us, x, b, h => by
    simp only [mkRw] at h
    obtain ⟨d, hd, e1, e2⟩ := mkRw_like l _ us x b h
    rw [List.getElem?_modify] at hd
    obtain ⟨d0, hd0, e⟩ := Option.map_eq_some_iff.1 hd
    refine ⟨d0, hd0, ?_, ?_⟩
    · rw [e1, ← e]; split <;> rfl
    · rw [e2, ← e]; split <;> rfl
/-- At the end of a round: the head again. -/
theorem LAnn.back_sound {A : LAnn} {anc : Anc} (hA : anc.of fp) {asg used : List Nat} {base : S} {p : List U → Prop} (h : A.back anc asg used base s p) : ∃ us, p us ∧ ∀ (c : C) (a : Act), Holds w0 fp c s a → ∃ c' : C, c'.w = c.w ∧ Holds w0 fp c' (A.head asg used base us) a := by
  unfold LAnn.back at h
  simp only at h
  generalize fdAV s.vars A.vars (fdVars s.vars 0 (A.head asg used base []).vars (fdSs (A.tmps.map (·.2)) (A.tmps.map fun x => s.tmps.getD x.1 .junk) ⟨[], [], []⟩)) = σ at h
  split at h
  case h_2 => exact h.elim
  rename_i us hus
  split at h
  case isFalse => exact h.elim
  rename_i hok
  simp only [Bool.and_eq_true, decide_eq_true_eq] at hok
  obtain ⟨h1, t1⟩ := chkT_sound h
  obtain ⟨h2, t2⟩ := chkVr_sound h1
  obtain ⟨h3, t3⟩ := chkRw_sound h2
  obtain ⟨h4, t4⟩ := chkOb_sound h3
  refine ⟨us, h4, fun c a hh => ⟨c.ren σ base.vars.length base.rows.length base.objs.length, rfl, ?_⟩⟩
  unfold LAnn.rd at hus
  split at hus
  case h_2 => cases hus
  rename_i u1 u2 u3 u4 e1 e2 e3 e4
  obtain rfl := Option.some.inj hus
  have l3 := rdRw_length e3
  have hlenT : (keepT asg used 0 base.tmps).length = s.tmps.length := by
    have : ∀ {i : Nat} {ws vs : List V} {p : Prop}, chkT σ base.vars.length base.rows.length base.objs.length (A.tmps.map (·.1)) i ws vs p → ws.length = vs.length := by
      intro i ws
      induction ws generalizing i with
      | nil => intro vs p h; simp only [chkT] at h; split at h; · rfl
               · exact h.elim
      | cons w ws ih =>
        intro vs p h
        simp only [chkT] at h
        split at h
        case h_2 => exact h.elim
        split at h
        · simp [ih h]
        · simp [ih (chkV_sound _ _ _ h).1]
    have := this h
    simpa [LAnn.head, mkT_length] using this
  obtain ⟨m1, m2⟩ := rdT_sound (c := c) hh.tmps e1 (keepT asg used 0 base.tmps) (u2 ++ (u3 ++ u4)) hlenT
  obtain ⟨n1, n2⟩ := rdVr_sound (c := c) e2 base.vars (u3 ++ u4)
  have r2 := rdRw_sound (fun r b hb hl => (hh.rows r b hb hl).len) e3 base.rows (fun r b hb => ⟨b, hb, rfl, rfl, rfl, rfl⟩)
  have o2 := rdOb_sound e4 base.objs (fun r b hb => ⟨b, hb, rfl, rfl, rfl⟩)
  have hhead : A.head asg used base (u1 ++ (u2 ++ (u3 ++ u4))) = ⟨(mkT A.tmps (keepT asg used 0 base.tmps) (u1 ++ (u2 ++ (u3 ++ u4)))).1, (mkVr A.vars base.vars (u2 ++ (u3 ++ u4))).1, mkRw A.rows base.rows u3, mkOb A.objs base.objs u4, [], base.lk⟩ := by
    simp only [LAnn.head, m1, n1, mkRw_append _ _ _ _ l3]
    rw [List.drop_append_of_le_length (by omega), List.drop_of_length_le (by omega), List.nil_append]
  rw [hhead] at hok t1 t2 t3 t4 ⊢
  obtain ⟨g1, g2, g3, g4, g5⟩ := Anc.ok_sound hok.1.2 hA
  have hv : (mkVr A.vars base.vars (u2 ++ (u3 ++ u4))).1.length = base.vars.length := mkVr_length _ _ _
  have hr : (mkRw A.rows base.rows u3).length = base.rows.length := mkRw_length _ _ _
  have ho : (mkOb A.objs base.objs u4).length = base.objs.length := mkOb_length _ _ _
  have hw := Holds.weaken (t := ⟨(mkT A.tmps (keepT asg used 0 base.tmps) (u1 ++ (u2 ++ (u3 ++ u4)))).1, (mkVr A.vars base.vars (u2 ++ (u3 ++ u4))).1, mkRw A.rows base.rows u3, mkOb A.objs base.objs u4, [], base.lk⟩) (a' := a) (σ := σ) hh (by simp only [hv, hr, ho]; exact hok.1.1)
    (by
      simp only [hv, hr, ho]
      exact t1 c _ hh.tmps (fun j w hj hcj => by
        rw [Nat.zero_add] at hcj
        rcases m2 j w hj with ⟨_, q⟩ | ⟨q, _⟩
        · exact q
        · rw [q] at hcj; cases hcj)) hh.defers
    (fun x b hb hl => by
      simp only [hv, hr, ho]
      rcases n2 x b hb with ⟨_, q⟩ | ⟨q, _⟩
      · exact q
      · obtain ⟨b', q1, q2, q3⟩ := t2 x b hb hl (by rw [Nat.zero_add]; exact q)
        rw [Nat.zero_add] at q1
        exact ⟨b', q1, q2, q3 c⟩)
    (fun x b hb hl => by
      rcases r2 x b hb with ⟨_, q⟩ | ⟨q, _⟩
      · exact q
      · have := t3 x b hb hl (by rw [Nat.zero_add]; exact q)
        rwa [Nat.zero_add] at this)
    (fun x b hb hl => by
      rcases o2 x b hb hl with ⟨_, q⟩ | ⟨q, _⟩
      · exact q
      · have := t4 x b hb hl (by rw [Nat.zero_add]; exact q)
        rwa [Nat.zero_add] at this)
    hok.2 g1 g2 g3 g4 g5
  simpa only [hv, hr, ho] using hw
theorem ren_id (c : C) : c.ren ⟨[], [], []⟩ c.nv c.nr c.nb = c := rfl
theorem id_ok (nv nr nb : Nat) : (⟨[], [], []⟩ : Sg).ok nv nr nb = true := by
  have h1 : (List.range nv).map (⟨[], [], []⟩ : Sg).sv = List.range nv := by
    have : (⟨[], [], []⟩ : Sg).sv = id := by funext k; rfl
    rw [this]; simp
  have h2 : (List.range nr).filterMap (⟨[], [], []⟩ : Sg).sr = List.range nr := by
    have : (⟨[], [], []⟩ : Sg).sr = some := by funext k; rfl
    rw [this]; simp
  have h3 : (List.range nb).map (⟨[], [], []⟩ : Sg).so = List.range nb := by
    have : (⟨[], [], []⟩ : Sg).so = id := by funext k; rfl
    rw [this]; simp
  have nd : ∀ {l : List Nat}, l.Nodup → nodupN l = true := by
    intro l
    induction l with
    | nil => intro _; rfl
    | cons x l ih =>
      intro h
      rw [List.nodup_cons] at h
      simp only [nodupN, ih h.2, Bool.and_true, Bool.not_eq_true']
      rw [List.any_eq_false]
      intro y hy e
      simp only [beq_iff_eq] at e
      subst e
      exact h.1 hy
  simp only [Sg.ok, h1, h2, h3, nd List.nodup_range, Bool.and_self]
/-- At the loop's beginning. -/
theorem LAnn.begin_sound {A : LAnn} {asg used : List Nat} {us : List U} (h : A.rd ⟨[], [], []⟩ s s = some us) : ∀ (c : C) (a : Act), Holds w0 fp c s a → ∃ c' : C, c'.w = c.w ∧ Holds w0 fp c' (A.head asg used s us) a := by
  intro c a hh
  unfold LAnn.rd at h
  split at h
  case h_2 => cases h
  rename_i u1 u2 u3 u4 e1 e2 e3 e4
  obtain rfl := Option.some.inj h
  have l3 := rdRw_length e3
  rw [← hh.nv, ← hh.nr, ← hh.nb] at e1 e2
  obtain ⟨m1, m2⟩ := rdT_sound (c := c) hh.tmps e1 (keepT asg used 0 s.tmps) (u2 ++ (u3 ++ u4)) (keepT_length _ _ _ _)
  obtain ⟨n1, n2⟩ := rdVr_sound (c := c) e2 s.vars (u3 ++ u4)
  have r2 := rdRw_sound (fun r b hb hl => (hh.rows r b hb hl).len) e3 s.rows (fun r b hb => ⟨b, hb, rfl, rfl, rfl, rfl⟩)
  have o2 := rdOb_sound e4 s.objs (fun r b hb => ⟨b, hb, rfl, rfl, rfl⟩)
  have hhead : A.head asg used s (u1 ++ (u2 ++ (u3 ++ u4))) = ⟨(mkT A.tmps (keepT asg used 0 s.tmps) (u1 ++ (u2 ++ (u3 ++ u4)))).1, (mkVr A.vars s.vars (u2 ++ (u3 ++ u4))).1, mkRw A.rows s.rows u3, mkOb A.objs s.objs u4, [], s.lk⟩ := by
    simp only [LAnn.head, m1, n1, mkRw_append _ _ _ _ l3]
    rw [List.drop_append_of_le_length (by omega), List.drop_of_length_le (by omega), List.nil_append]
  rw [hhead]
  have hv : (mkVr A.vars s.vars (u2 ++ (u3 ++ u4))).1.length = c.nv := by rw [mkVr_length, hh.nv]
  have hr : (mkRw A.rows s.rows u3).length = c.nr := by rw [mkRw_length, hh.nr]
  have ho : (mkOb A.objs s.objs u4).length = c.nb := by rw [mkOb_length, hh.nb]
  have keepG : ∀ (i : Nat) (v : V) (n : Nat) (vs : List V), (keepT asg used n vs)[i]? = some v → ∃ v0, vs[i]? = some v0 ∧ (v = v0 ∨ v = .junk) := by
    intro i v n vs
    induction vs generalizing i n with
    | nil => intro h; simp [keepT] at h
    | cons x vs ih =>
      intro h
      simp only [keepT] at h
      cases i with
      | zero =>
        simp at h
        refine ⟨x, rfl, ?_⟩
        rw [← h]
        split
        · exact .inr rfl
        · split
          · split
            · exact .inr rfl
            · exact .inr rfl
            · exact .inl rfl
          · exact .inr rfl
      | succ i => simpa using ih i (n + 1) (by simpa using h)
  have of_get : ∀ (ws : List V) (xs : List Value), ws.length = xs.length → (∀ i v, ws[i]? = some v → RV c v (xs.getD i undef)) → RVs c ws xs := by
    intro ws
    induction ws with
    | nil => intro xs hl _; have : xs = [] := List.eq_nil_of_length_eq_zero (by simpa using hl.symm); subst this; exact .nil
    | cons w ws ih =>
      intro xs hl hg
      cases xs with
      | nil => simp at hl
      | cons x xs => exact .cons (by simpa using hg 0 w rfl) (ih xs (by simpa using hl) (fun i v hv => by simpa using hg (i + 1) v (by simpa using hv)))
  have hw := Holds.weaken (t := ⟨(mkT A.tmps (keepT asg used 0 s.tmps) (u1 ++ (u2 ++ (u3 ++ u4)))).1, (mkVr A.vars s.vars (u2 ++ (u3 ++ u4))).1, mkRw A.rows s.rows u3, mkOb A.objs s.objs u4, [], s.lk⟩) (a' := a) (σ := ⟨[], [], []⟩) hh (id_ok _ _ _)
    (by
      simp only [hv, hr, ho]
      rw [ren_id]
      refine of_get _ _ (by rw [mkT_length, keepT_length, hh.tmps.length]) (fun i v hv => ?_)
      rcases m2 i v hv with ⟨_, q⟩ | ⟨_, q⟩
      · exact q
      · obtain ⟨v0, hv0, e⟩ := keepG i v 0 _ q
        rcases e with rfl | rfl
        · obtain ⟨u, hu, hr⟩ := hh.tmps.get i hv0
          rw [List.getD_eq_getElem?_getD, hu]
          exact hr
        · simp [RV]) hh.defers
    (fun x b hb hl => by
      simp only [hv, hr, ho]
      rcases n2 x b hb with ⟨_, q⟩ | ⟨_, q⟩
      · exact q
      · exact ⟨b, q, hl, fun us hu => hu⟩)
    (fun x b hb hl => by
      rcases r2 x b hb with ⟨_, q⟩ | ⟨_, q⟩
      · exact q
      · exact .inl ⟨x, b, rfl, q, hl, rfl, rfl, rfl, b.t.eq_self, rfl⟩)
    (fun x b hb hl => by
      rcases o2 x b hb hl with ⟨_, q⟩ | ⟨_, q⟩
      · exact q
      · exact q) rfl
    (fun x ad hx => by
      obtain ⟨q1, _⟩ := hh.ag x ad hx
      exact ⟨by simp only [hv]; exact q1, rfl⟩)
    (fun r v hv => by
      obtain ⟨_, b, hb, hl, hf⟩ := hh.ar r v hv
      have hlt : r < (mkRw A.rows s.rows u3).length := by rw [mkRw_length]; exact (List.getElem?_eq_some_iff.1 hb).1
      have hg := List.getElem?_eq_getElem hlt
      obtain ⟨b0, hb0, e1, e2⟩ := mkRw_like _ _ _ _ _ hg
      rw [hb] at hb0
      obtain rfl := Option.some.inj hb0
      exact ⟨rfl, _, hg, by rw [e1]; exact hl, by rw [e2]; exact hf⟩)
    (fun x v hv => by
      obtain ⟨_, b, hb, hl, hf⟩ := hh.ao x v hv
      have hlt : x < (mkOb A.objs s.objs u4).length := by rw [mkOb_length]; exact (List.getElem?_eq_some_iff.1 hb).1
      have hg := List.getElem?_eq_getElem hlt
      obtain ⟨b0, hb0, e1, e2⟩ := mkOb_like _ _ _ _ _ hg
      rw [hb] at hb0
      obtain rfl := Option.some.inj hb0
      exact ⟨rfl, _, hg, by rw [e1]; exact hl, by rw [e2]; exact hf⟩)
    (fun x r _ e => .inr (Option.some.inj (show some r = some x from e.symm))) (fun x _ => .inr rfl)
  refine ⟨c.ren ⟨[], [], []⟩ (mkVr A.vars s.vars (u2 ++ (u3 ++ u4))).1.length (mkRw A.rows s.rows u3).length (mkOb A.objs s.objs u4).length, rfl, ?_⟩
  exact hw
/-- A loop: what is known at its head, a word for each round, and what goes down. -/
theorem GoesS.loop {σ : Type} {cd : Code} {k : List It} (inv : σ → S) (good : σ → Prop) (μ : σ → Nat) (x0 : σ) (h0 : good x0) (hs : ∀ (c : C) (a : Act), Holds w0 fp c s a → ∃ c' : C, c'.w = c.w ∧ Holds w0 fp c' (inv x0) a)
    (round : ∀ x, good x → (∀ y, good y → μ y < μ x → GoesS P f w0 fp R (.inLoop cd :: k) (inv y)) → GoesS P f w0 fp R (.code cd :: .inLoop cd :: k) (inv x)) :
    GoesS P f w0 fp R (.code (.loop cd) :: k) s := by
  have key : ∀ n x, μ x = n → good x → GoesS P f w0 fp R (.code cd :: .inLoop cd :: k) (inv x) := by
    intro n
    induction n using Nat.strongRecOn with
    | _ n ih =>
      intro x hn hg
      refine round x hg (fun y hy hlt => ?_)
      intro p c a ht hh
      obtain ⟨todo, rfl⟩ : ∃ todo, p = .items todo := by cases p with | items l => exact ⟨l, rfl⟩ | open_ => cases ht | pick => cases ht
      replace ht : todo.map slim = .inLoop cd :: k := ht
      show Goes P f R todo a c.w
      obtain ⟨i0, todo', rfl, hi0, hk⟩ : ∃ i0 todo', todo = i0 :: todo' ∧ slim i0 = .inLoop cd ∧ todo'.map slim = k := by
        cases todo with
        | nil => simp at ht
        | cons i0 todo' => simp only [List.map_cons, List.cons.injEq] at ht; exact ⟨i0, todo', rfl, ht.1, ht.2⟩
      obtain rfl := slim_inLoop hi0
      exact Goes.next (fun b cs => step_inLoop) (ih _ (hn ▸ hlt) y rfl hy (.items (.code cd :: .inLoop cd :: todo')) c a (by simp [Pos.its, slim, hk]) hh)
  intro p c a ht hh
  obtain ⟨c', hw, hh⟩ := hs c a hh
  obtain ⟨todo, rfl⟩ : ∃ todo, p = .items todo := by cases p with | items l => exact ⟨l, rfl⟩ | open_ => cases ht | pick => cases ht
  replace ht : todo.map slim = .code (.loop cd) :: k := ht
  show Goes P f R todo a c.w
  rw [← hw]
  obtain ⟨i0, todo', rfl, hi0, hk⟩ : ∃ i0 todo', todo = i0 :: todo' ∧ slim i0 = .code (.loop cd) ∧ todo'.map slim = k := by
    cases todo with
    | nil => simp at ht
    | cons i0 todo' => simp only [List.map_cons, List.cons.injEq] at ht; exact ⟨i0, todo', rfl, ht.1, ht.2⟩
  rcases slim_code hi0 with rfl | hbad
  · exact Goes.next (fun b cs => step_loop) (key _ x0 rfl h0 (.items (.code cd :: .inLoop cd :: todo')) c' a (by simp [Pos.its, slim, hk]) hh)
  · cases hbad
def shut : List It → Bool
  | .openR .. :: _ | .pickR .. :: _ => false
  | _ => true
theorem GoesS.weaken {its : List It} (hsh : shut its = true) (hs : ∀ (c : C) (a : Act), Holds w0 fp c s a → ∃ c' : C, c'.w = c.w ∧ Holds w0 fp c' t a) (h : GoesS P f w0 fp R its t) : GoesS P f w0 fp R its s := fun p c a ht hh => by
  obtain ⟨c', hw, hh⟩ := hs c a hh
  cases p with
  | items l =>
    have := h (.items l) c' a ht hh
    show Goes P f R l a c.w
    rw [← hw]; exact this
  | open_ => rw [← ht] at hsh; cases hsh
  | pick => rw [← ht] at hsh; cases hsh
/-- Nil is a row of nothing. -/
theorem GoesS.nilRow {its : List It} (hsh : shut its = true) (slot : Nat) (e : TypeId) (q : Tp) (hv : s.tmps[slot]? = some (.v (.slice none 0 0)))
    (h : GoesS P f w0 fp R its { s with tmps := s.tmps.set slot (.own s.rows.length), rows := s.rows ++ [⟨true, false, e, q, .l 0, []⟩] }) : GoesS P f w0 fp R its s := by
  refine GoesS.weaken hsh (fun c a hh => ?_) h
  obtain ⟨le, hh'⟩ := hh.newRow (⟨true, false, e, q, .l 0, []⟩ : Row) (v := .slice none 0 0) (w' := c.w) (us := []) (Keeps.refl _ _) ⟨by simp, .inl ⟨rfl, rfl⟩⟩ rfl rfl (fun k o h => h.elim)
  refine ⟨c.newRow (.slice none 0 0) c.w, rfl, hh'.same rfl rfl ?_ hh'.defers⟩
  obtain ⟨u, hu, hr⟩ := hh.tmps.get slot hv
  simp only [RV] at hr
  subst hr
  have := RVs.set slot hh'.tmps (v := .own s.rows.length) (u := .slice none 0 0) (by
    simp only [RV, C.newRow]
    exact ⟨by rw [hh.nr]; omega, by rw [if_pos hh.nr.symm], by rw [if_pos hh.nr.symm]; rfl⟩)
  rwa [show a.tmps.toList.set slot (.slice none 0 0) = a.tmps.toList from by
    apply List.ext_getElem?
    intro i
    by_cases hi : slot = i
    · subst hi
      rw [List.getElem?_set_self (List.getElem?_eq_some_iff.1 hu).1, hu]
    · rw [List.getElem?_set_ne hi]] at this
/-- Variables that lead to a row lead to its rest: all of it. -/
theorem Holds.bkRow (h : Holds w0 fp c s a) {r : Nat} {b : Row} (hb : s.rows[r]? = some b) (hl : b.live = true) : Holds w0 fp c { s with vars := s.vars.map fun v => ⟨v.live, v.ct.bk r r b.t.size (.l 0) b.n⟩ } a := by
  have hrow := h.rows r b hb hl
  have hbk : BkOK (c.r r) b.t.size 0 b.n.val (c.r r) := by
    obtain ⟨us, hat, _⟩ := hrow.at_
    refine ⟨Int.le_refl _, by rw [hrow.len]; exact Int.natCast_nonneg _, ?_⟩
    rw [hrow.len]
    rcases hat.at_ with ⟨q, q'⟩ | ⟨_, q', A', c', q, q''⟩ | ⟨g, o', c', q, q1, q2, _⟩
    · exact ⟨none, 0, none, 0, by rw [q, q']; rfl, by rw [q']; simp, by simp, by rw [q, q']; rfl, .inl (by rw [q']; rfl)⟩
    · exact ⟨A', c', A', c', by rw [q, q']; rfl, by rw [q']; simp, q'', by rw [q, q']; rfl, .inl (by rw [q']; rfl)⟩
    · exact ⟨some ⟨g, o', none⟩, c', some ⟨g, o', none⟩, c', by rw [q]; rfl, by simpa using q1, q2, by rw [q]; simp, .inr ⟨g, o', rfl, by simp⟩⟩
  have key : ∀ (v : V) (u : Value), RV c v u → RV c (bkV r r b.t.size (.l 0) b.n v) u := by
    intro v u hv
    cases v with
    | own r' =>
      simp only [bkV]
      split
      · rename_i e
        obtain rfl := eq_of_beq e
        simp only [RV] at hv ⊢
        rw [hv.2.1]
        exact ⟨hv.1, hbk⟩
      · exact hv
    | bk r' sz' k n' =>
      simp only [bkV]
      split
      · rename_i e
        simp only [Bool.and_eq_true, beq_iff_eq] at e
        obtain ⟨rfl, rfl⟩ := e
        simp only [RV] at hv ⊢
        refine ⟨hv.1, ?_⟩
        rw [addI_val, show (I.l 0).val = 0 from rfl, Int.add_zero]
        exact hv.2
      · exact hv
    | _ => exact hv
  have keys : ∀ (vs : List V) (xs : List Value), RVs c vs xs → RVs c (vs.map (bkV r r b.t.size (.l 0) b.n)) xs := by
    intro vs
    induction vs with
    | nil => intro xs hx; exact hx
    | cons v vs ih =>
      intro xs hx
      simp only [RVs] at hx
      obtain ⟨x, xs', rfl, h1, h2⟩ := hx
      exact .cons (key v x h1) (ih _ h2)
  have bsize : ∀ ct : Ctn, (ct.bk r r b.t.size (.l 0) b.n).size = ct.size := fun ct => by cases ct <;> simp [Ctn.bk, Ctn.size]
  have hf : ∀ q k o, foot c { s with vars := s.vars.map fun v => ⟨v.live, v.ct.bk r r b.t.size (.l 0) b.n⟩ } q k o ↔ foot c s q k o := fun q k o => by
    cases q with
    | v y =>
      constructor
      · rintro ⟨v, hv, hlv, hf⟩
        simp only [List.getElem?_map, Option.map_eq_some_iff] at hv
        obtain ⟨v0, hv0, rfl⟩ := hv
        refine ⟨v0, hv0, hlv, ?_⟩
        simp only [bsize] at hf
        exact hf
      · rintro ⟨v, hv, hlv, hf⟩
        refine ⟨⟨v.live, v.ct.bk r r b.t.size (.l 0) b.n⟩, by simp only [List.getElem?_map, hv, Option.map_some], hlv, ?_⟩
        simp only [bsize]
        exact hf
    | r y => exact Iff.rfl
    | o y => exact Iff.rfl
  exact { gl := h.gl, fpk := h.fpk, lk := h.lk, keeps := h.keeps, eF := h.eF, eF2 := h.eF2, tmps := h.tmps, defers := h.defers, nv := by simp only [List.length_map]; exact h.nv, nr := h.nr, nb := h.nb
          vars := fun x v hv hlv => by
            simp only [List.getElem?_map, Option.map_eq_some_iff] at hv
            obtain ⟨v0, hv0, rfl⟩ := hv
            obtain ⟨h1, us, h2, h3⟩ := h.vars x v0 hv0 hlv
            refine ⟨by simp only [bsize]; exact h1, us, h2, ?_⟩
            cases hc : v0.ct with
            | ls l => rw [hc] at h3; exact keys l us h3
            | _ => rw [hc] at h3; exact h3
          rows := h.rows, objs := h.objs, disj := fun q q' k o h1 h2 => h.disj q q' k o ((hf _ _ _).1 h1) ((hf _ _ _).1 h2), mine := fun q k o h1 => h.mine q k o ((hf _ _ _).1 h1), free := fun q k o h1 => h.free q k o ((hf _ _ _).1 h1), flt := h.flt, ag := h.ag, ar := h.ar, ao := h.ao }
/-- A row stays where it is from now on. -/
theorem Holds.fixRow (h : Holds w0 fp c s a) {r : Nat} {b : Row} (hb : s.rows[r]? = some b) (hl : b.live = true) : Holds w0 fp c { s with rows := s.rows.set r { b with fix := true } } a := by
  have hx : r < s.rows.length := (List.getElem?_eq_some_iff.1 hb).1
  have hget : ∀ (y : Nat) (b' : Row), (s.rows.set r { b with fix := true })[y]? = some b' → (y = r ∧ b' = { b with fix := true }) ∨ (y ≠ r ∧ s.rows[y]? = some b') := fun y b' hb' => by
    by_cases e : y = r
    · subst e
      rw [List.getElem?_set_self hx] at hb'
      exact .inl ⟨rfl, (Option.some.inj hb').symm⟩
    · rw [List.getElem?_set_ne (Ne.symm e)] at hb'
      exact .inr ⟨e, hb'⟩
  have hrf : ∀ (v : Value) (f : Bool) (sz k o : Nat), rowF v true sz k o → rowF v f sz k o := fun v f sz k o hq => by
    unfold rowF at hq ⊢
    split
    · simp only at hq
      exact ⟨hq.1, .inr (hq.2.resolve_left (by simp))⟩
    · rename_i hne
      split at hq
      · rename_i a n cp
        exact (hne a n cp rfl).elim
      · exact hq
  have hf : ∀ q k o, foot c { s with rows := s.rows.set r { b with fix := true } } q k o → foot c s q k o := fun q k o => by
    cases q with
    | v y => exact id
    | r y =>
      rintro ⟨b', hb', hlv, hf⟩
      rcases hget y b' hb' with ⟨rfl, rfl⟩ | ⟨_, hb'⟩
      · exact ⟨b, hb, hl, hrf _ _ _ _ _ hf⟩
      · exact ⟨b', hb', hlv, hf⟩
    | o y => exact id
  exact { gl := h.gl, fpk := h.fpk, lk := h.lk, keeps := h.keeps, eF := h.eF, eF2 := h.eF2, tmps := h.tmps, defers := h.defers, nv := h.nv, nr := by simp only [List.length_set]; exact h.nr, nb := h.nb, vars := h.vars
          rows := fun y b' hb' hlv => by
            rcases hget y b' hb' with ⟨rfl, rfl⟩ | ⟨_, hb'⟩
            · obtain ⟨h1, us, h2, h3⟩ := h.rows y b hb hl
              refine ⟨h1, us, ⟨h2.len, ?_⟩, h3⟩
              rcases h2.at_ with q | ⟨_, q⟩ | ⟨g, o, cap, q1, q2, q3, q4, _⟩
              · exact .inl q
              · exact .inr (.inl ⟨rfl, q⟩)
              · exact .inr (.inr ⟨g, o, cap, q1, q2, q3, q4, fun e => by cases e⟩)
            · exact h.rows y b' hb' hlv
          objs := h.objs, disj := fun q q' k o h1 h2 => h.disj q q' k o (hf _ _ _ h1) (hf _ _ _ h2), mine := fun q k o h1 => h.mine q k o (hf _ _ _ h1), free := fun q k o h1 => h.free q k o (hf _ _ _ h1), flt := h.flt, ag := h.ag
          ar := fun y v hv => by
            obtain ⟨h1, b', hb', h2, h3⟩ := h.ar y v hv
            refine ⟨h1, ?_⟩
            by_cases e : y = r
            · subst e; exact ⟨_, List.getElem?_set_self hx, hl, rfl⟩
            · exact ⟨b', by simp only; rw [List.getElem?_set_ne (Ne.symm e)]; exact hb', h2, h3⟩
          ao := h.ao }
/-- A variable's content by other names. -/
theorem Holds.revar (h : Holds w0 fp c s a) {x : Nat} {v : Var} (hv : s.vars[x]? = some v) {ct : Ctn} (hsz : ct.size = v.ct.size) (ht : ∀ us, RCt c v.ct us → RCt c ct us) : Holds w0 fp c { s with vars := s.vars.set x ⟨v.live, ct⟩ } a := by
  have hx : x < s.vars.length := (List.getElem?_eq_some_iff.1 hv).1
  have hget : ∀ (y : Nat) (b : Var), (s.vars.set x ⟨v.live, ct⟩)[y]? = some b → (y = x ∧ b = ⟨v.live, ct⟩) ∨ (y ≠ x ∧ s.vars[y]? = some b) := fun y b hb => by
    by_cases e : y = x
    · subst e
      rw [List.getElem?_set_self hx] at hb
      exact .inl ⟨rfl, (Option.some.inj hb).symm⟩
    · rw [List.getElem?_set_ne (Ne.symm e)] at hb
      exact .inr ⟨e, hb⟩
  have hf : ∀ q k o, foot c { s with vars := s.vars.set x ⟨v.live, ct⟩ } q k o ↔ foot c s q k o := fun q k o => by
    cases q with
    | v y =>
      constructor
      · rintro ⟨b, hb, hlv, hf⟩
        rcases hget y b hb with ⟨rfl, rfl⟩ | ⟨_, hb⟩
        · refine ⟨v, hv, hlv, ?_⟩
          simp only [hsz] at hf
          exact hf
        · exact ⟨b, hb, hlv, hf⟩
      · rintro ⟨b, hb, hlv, hf⟩
        by_cases e : y = x
        · subst e
          obtain rfl : v = b := Option.some.inj (hv.symm.trans hb)
          refine ⟨⟨v.live, ct⟩, List.getElem?_set_self hx, hlv, ?_⟩
          simp only [hsz]
          exact hf
        · exact ⟨b, by simp only; rw [List.getElem?_set_ne (Ne.symm e)]; exact hb, hlv, hf⟩
    | r y => exact Iff.rfl
    | o y => exact Iff.rfl
  exact { gl := h.gl, fpk := h.fpk, lk := h.lk, keeps := h.keeps, eF := h.eF, eF2 := h.eF2, tmps := h.tmps, defers := h.defers, nv := by simp only [List.length_set]; exact h.nv, nr := h.nr, nb := h.nb
          vars := fun y b hb hlv => by
            rcases hget y b hb with ⟨rfl, rfl⟩ | ⟨_, hb⟩
            · obtain ⟨h1, us, h2, h3⟩ := h.vars y v hv hlv
              exact ⟨by simp only [hsz]; exact h1, us, h2, ht us h3⟩
            · exact h.vars y b hb hlv
          rows := h.rows, objs := h.objs, disj := fun q q' k o h1 h2 => h.disj q q' k o ((hf _ _ _).1 h1) ((hf _ _ _).1 h2), mine := fun q k o h1 => h.mine q k o ((hf _ _ _).1 h1), free := fun q k o h1 => h.free q k o ((hf _ _ _).1 h1), flt := h.flt, ag := h.ag, ar := h.ar, ao := h.ao }
/-- Nil in a variable's cell is a row of nothing. -/
theorem GoesS.nilCell {its : List It} (hsh : shut its = true) (x o : Nat) (e : TypeId) (q : Tp) {lv : Bool} {cs : List V} (hv : s.vars[x]? = some ⟨lv, .ls cs⟩) (hc : cs[o]? = some (.v (.slice none 0 0)))
    (h : GoesS P f w0 fp R its { s with vars := s.vars.set x ⟨lv, .ls (cs.set o (.own s.rows.length))⟩, rows := s.rows ++ [⟨true, false, e, q, .l 0, []⟩] }) : GoesS P f w0 fp R its s := by
  refine GoesS.weaken hsh (fun c a hh => ?_) h
  obtain ⟨le, hh'⟩ := hh.newRow (⟨true, false, e, q, .l 0, []⟩ : Row) (v := .slice none 0 0) (w' := c.w) (us := []) (Keeps.refl _ _) ⟨by simp, .inl ⟨rfl, rfl⟩⟩ rfl rfl (fun k o h => h.elim)
  refine ⟨c.newRow (.slice none 0 0) c.w, rfl, hh'.revar (v := ⟨lv, .ls cs⟩) (ct := .ls (cs.set o (.own s.rows.length))) hv (by simp [Ctn.size]) ?_⟩
  intro us hu
  have hu : RVs (c.newRow (.slice none 0 0) c.w) cs us := hu
  show RVs (c.newRow (.slice none 0 0) c.w) (cs.set o (.own s.rows.length)) us
  obtain ⟨u, hu2, hr⟩ := hu.get o hc
  simp only [RV] at hr
  subst hr
  have := RVs.set o hu (v := .own s.rows.length) (u := .slice none 0 0) (by
    simp only [RV, C.newRow]
    exact ⟨by rw [hh.nr]; omega, by rw [if_pos hh.nr.symm], by rw [if_pos hh.nr.symm]; rfl⟩)
  rwa [show us.set o (.slice none 0 0) = us from by
    apply List.ext_getElem?
    intro i
    by_cases hi : o = i
    · subst hi
      rw [List.getElem?_set_self (List.getElem?_eq_some_iff.1 hu2).1, hu2]
    · rw [List.getElem?_set_ne hi]] at this
theorem nilsS_sound {its : List It} (hsh : shut its = true) : ∀ {l : List (Nat × TypeId × Tp)} {s s1 : S}, nilsS l s = some s1 → GoesS P f w0 fp R its s1 → GoesS P f w0 fp R its s
  | [], s, s1, h, hG => by
    obtain rfl := Option.some.inj h
    exact hG
  | (i, e, q) :: l, s, s1, h, hG => by
    simp only [nilsS] at h
    split at h
    · rename_i hv
      exact GoesS.nilRow hsh i e q hv (nilsS_sound hsh h hG)
    · split at h
      · rename_i b hb
        split at h
        · rename_i hl
          exact GoesS.weaken hsh (fun c a hh => ⟨c, rfl, (hh.bkRow hb hl).fixRow hb hl⟩) (nilsS_sound hsh h hG)
        · cases h
      · cases h
    · split at h
      · rename_i lv cs hv
        split at h
        · rename_i hc
          exact GoesS.nilCell hsh _ _ e q hv hc (nilsS_sound hsh h hG)
        · cases h
      · cases h
    · cases h
end
end Go.Fx
