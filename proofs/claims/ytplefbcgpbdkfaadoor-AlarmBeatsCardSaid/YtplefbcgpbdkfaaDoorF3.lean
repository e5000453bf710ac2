/- Views, and objects that are shut on the way. -/
import Derived.Test.YtplefbcgpbdkfaaDoorF2
set_option linter.all false
namespace Go.Fx
open Go Go.RowKit

section
variable {P : Program} {T : TypeId → TI} {E : Env} {w0 : World} {fp : Base} {c : C} {s t : S} {a a' : Act} {f : FuncId} {R : Ending → World → Prop}

theorem Anchd.baseT (E : Env) (c : C) (s : S) (nr nb : Nat) : Anchd (baseT E c s nr nb) nr nb := by
  refine ⟨fun i v hi => ?_, fun i v hi => ?_⟩ <;>
  · simp only [Fx.baseT, List.getElem?_take] at hi
    split at hi
    · assumption
    · cases hi
theorem baseT_obj {E : Env} {c1 c2 : C} {s0 s2 : S} {a2 : Act} {w : World} {nr nb x : Nat} {b : Ob} (h : Holds w (baseT E c1 s0 nr nb) c2 s2 a2) (hx : x < nb) (hb : s0.objs[x]? = some b) (hl : b.live = true) (hs : b.k.still = true) : c2.ob x = c1.ob x := by
  have hlt := (List.getElem?_eq_some_iff.1 hb).1
  refine (h.ao x (c1.ob x) ?_).1
  simp only [baseT, baseOf, List.getElem?_take, List.getElem?_map]
  rw [if_pos hx, List.getElem?_range hlt]
  simp only [Option.map_some, hb, hl, hs, Bool.and_self, if_true]
theorem baseT_var {E : Env} {c1 c2 : C} {s0 s2 : S} {a2 : Act} {w : World} {nr nb v : Nat} {u : Value} (h : Holds w (baseT E c1 s0 nr nb) c2 s2 a2) (hv : v < s0.vars.length) (hu : RV c1 (.lp v 0) u) : RV c2 (.lp v 0) u := by
  obtain ⟨q1, q2⟩ := h.ag v (c1.g v) (by simp only [baseT, baseOf, List.getElem?_map]; rw [List.getElem?_range hv]; rfl)
  simp only [RV] at hu ⊢
  exact ⟨q1, by rw [q2]; exact hu.2⟩
theorem opn_sound (h0 : Holds c.w (baseOf E false c t) c t ⟨#[], []⟩) (htm : t.tmps = []) {op : VO} {args : List V} {vals : List Value} {K : S → List V → (S → (S → Prop) → Prop) → Prop} (hv : RVs c args vals) (hq : opn E op t args K) :
    ∃ (c1 : C) (s0 : S) (args0 : List V) (bk : S → (S → Prop) → Prop), OpnOK E c t c1 s0 ∧ RVs c1 args0 vals ∧ K s0 args0 bk ∧
      ∀ (c2 : C) (s2 : S) (a2 : Act) (Q : S → Prop), Holds c.w (baseT E c1 s0 t.rows.length t.objs.length) c2 s2 a2 → bk s2 Q → ∃ (c' : C) (s' : S), c'.w = c2.w ∧ c2.Le c' ∧ Holds c.w (baseT E c1 s0 t.rows.length t.objs.length) c' s' a2 ∧ Q s' := by
  have raw := h0.raw
  have leId : ∀ c : C, c.Le c := fun c => { F := fun _ _ h => h, spot := fun _ _ _ => rfl, g := fun _ _ => rfl, nv := Nat.le_refl _, r := fun _ _ => rfl, nr := Nat.le_refl _, ob := fun _ _ => rfl, nb := Nat.le_refl _ }
  have setV : ∀ {c1 : C} {i : Nat} {v v' : V} {u : Value}, c.Le c1 → args[i]? = some v → vals[i]? = some u → RV c1 v' u → RVs c1 (args.set i v') vals := fun {c1 i v v' u} le ha hu hr => by
    have := RVs.set i (RVs.le le _ _ hv) hr
    rwa [show vals.set i u = vals from by
      apply List.ext_getElem?
      intro j
      by_cases e : i = j
      · subst e; rw [List.getElem?_set_self (List.getElem?_eq_some_iff.1 hu).1, hu]
      · rw [List.getElem?_set_ne e]] at this
  cases op with
  | none =>
    refine ⟨c, { t with lk := ⟨0, 0, 0, t.rows.length⟩ }, args, _, ⟨⟨raw.nv, raw.nr, raw.nb, raw.vars, raw.rows, raw.objs, fun q q' k o h1 h2 => raw.disj q q' k o (by cases q <;> exact h1) (by cases q' <;> exact h2), fun q k o h1 => raw.nF q k o (by cases q <;> exact h1), raw.flt, raw.gl⟩, rfl, rfl, fun q k o h1 => ⟨q, by cases q <;> exact h1⟩, fun r k o _ h1 => h1, leId c, Nat.le_refl _, Nat.le_refl _, fun _ _ => rfl, fun x b hb hl hs => ⟨b, hb, hl, hs⟩, htm, rfl⟩, hv, hq, fun c2 s2 a2 Q hh hQ => ⟨c2, s2, rfl, leId c2, hh, hQ⟩⟩
  | o i n =>
    simp only [opn] at hq
    split at hq
    case h_2 => exact hq.elim
    rename_i x hax
    split at hq
    case h_2 => exact hq.elim
    rename_i m tt e hb
    split at hq
    case isFalse => exact hq.elim
    rename_i hm
    subst hm
    split at hq
    case isFalse => exact hq.elim
    rename_i ht
    obtain rfl := Tp.of_eq ht
    split at hq
    case isFalse => exact hq.elim
    rename_i hg
    obtain ⟨u, hu, hru⟩ := hv.get i hax
    simp only [RV] at hru
    obtain ⟨⟨fu, hone⟩, hbnd, h1⟩ := raw.objs x _ hb rfl
    have hlt := (List.getElem?_eq_some_iff.1 hb).1
    obtain ⟨ws, lc, w1, w2, w3⟩ := OpnOK.ofOne raw htm hb rfl (d := e) (u := c.ob x) (D1 := c.fo x) (D' := fun _ _ => False) (b' := ⟨true, .opq, .bo, false⟩) hone (fun k o z => z) ⟨⟨1, trivial⟩, fun k o z => z.elim, h1⟩ rfl rfl (fun k o z => z.elim) hg
    have hq := allU_spec hq ws w1 w2
    split at hq
    case isFalse => exact hq.elim
    rename_i hok
    obtain ⟨ho, hr⟩ := w3 hok
    refine ⟨_, _, _, _, ho, setV ho.le hax hu (by rw [hru.2.1]; exact hr), hq, fun c2 s2 a2 Q hh hQ => ?_⟩
    have hvl : t.vars.length < (t.openAt x ⟨true, .opq, .bo, false⟩ ((E.K m).st ws)).vars.length := by
      have := hr
      simp only [RV] at this
      rw [ho.raw.nv] at this
      exact this.1
    have e1 := baseT_obj hh (x := x) hlt (b := ⟨true, .opq, .bo, false⟩) (by simp only [S.openAt]; rw [List.getElem?_append_left (by rw [List.length_set]; exact hlt), List.getElem?_set_self hlt]) rfl rfl
    have e2 : (c.openAt lc x (fun _ _ => False)).ob x = c.ob x := ho.le.ob x (by rw [raw.nb]; exact hlt)
    have hp := baseT_var hh hvl hr
    rw [← e2, ← e1] at hp
    exact backO_sound hh (Anchd.baseT _ _ _ _ _) hp hQ
  | a i n =>
    simp only [opn] at hq
    split at hq
    case h_2 => exact hq.elim
    rename_i e hax
    obtain ⟨x, l, hb, hq⟩ := arenP_spec hq
    split at hq
    case isFalse => exact hq.elim
    rename_i hg
    obtain ⟨hhas, hq⟩ := hq
    obtain ⟨u, hu, hru⟩ := hv.get i hax
    simp only [RV] at hru
    obtain ⟨⟨fu, har⟩, hbnd, h1⟩ := raw.objs x _ hb rfl
    cases fu with
    | zero => exact har.elim
    | succ fu =>
      obtain ⟨us, D', hS, hD'⟩ := har
      obtain ⟨u1, us', D1, D2, ⟨r1, r2, r3⟩, hS2, hd, hs2⟩ := hS.split (z := (E.K n).t.z) hhas
      have hlt := (List.getElem?_eq_some_iff.1 hb).1
      obtain ⟨ws, lc, w1, w2, w3⟩ := OpnOK.ofOne raw htm hb rfl (u := u1) (D1 := D1) (D' := D2) (b' := ⟨true, .aren n, .sl (.p .pt (E.K n).t), delA e l⟩) r3 (fun k o z => hD' k o (hs2 k o (.inl z))) ⟨⟨fu + 1, us', D2, hS2, fun k o z => z⟩, fun k o z => hbnd k o (hD' k o (hs2 k o (.inr z))), h1⟩ rfl rfl (fun k o z => ⟨hD' k o (hs2 k o (.inr z)), fun z' => hd k o z' z⟩) hg
      have hq := allU_spec hq ws w1 w2
      split at hq
      case isFalse => exact hq.elim
      rename_i hok
      obtain ⟨ho, hr⟩ := w3 hok
      refine ⟨_, _, _, _, ho, setV ho.le hax hu (by rw [hru, ← r1]; exact hr), hq, fun c2 s2 a2 Q hh hQ => ?_⟩
      have hvl : t.vars.length < (t.openAt x ⟨true, .aren n, .sl (.p .pt (E.K n).t), delA e l⟩ ((E.K n).st ws)).vars.length := by
        have := hr
        simp only [RV] at this
        rw [ho.raw.nv] at this
        exact this.1
      have hp := baseT_var hh hvl hr
      rw [r1] at hp
      exact backA_sound hh (Anchd.baseT _ _ _ _ _) hg r2 hp hQ
  | m i n =>
    simp only [opn] at hq
    split at hq
    case h_2 => exact hq.elim
    rename_i e hax
    obtain ⟨x, l, hb, hq⟩ := arenP_spec hq
    obtain ⟨hhas, hq⟩ := hq
    obtain ⟨u, hu, hru⟩ := hv.get i hax
    simp only [RV] at hru
    obtain ⟨⟨fu, har⟩, hbnd, h1⟩ := raw.objs x _ hb rfl
    cases fu with
    | zero => exact har.elim
    | succ fu =>
      obtain ⟨us, D', hS, hD'⟩ := har
      obtain ⟨u1, us', D1, D2, ⟨r1, r2, r3⟩, hS2, hd, hs2⟩ := hS.split (z := (E.K n).t.z) hhas
      obtain ⟨lc, ho, hr⟩ := OpnOK.ofMove raw htm hb rfl (u := u1) (D1 := D1) (D' := D2) (b' := ⟨true, .aren n, .sl (.p .pt (E.K n).t), delA e l⟩) r3 (by rw [r1]; exact ptrU_one _) (fun k o z => hD' k o (hs2 k o (.inl z))) ⟨⟨fu + 1, us', D2, hS2, fun k o z => z⟩, fun k o z => hbnd k o (hD' k o (hs2 k o (.inr z))), h1⟩ rfl rfl (fun k o z => ⟨hD' k o (hs2 k o (.inr z)), fun z' => hd k o z' z⟩)
      exact ⟨_, _, _, _, ho, setV ho.le hax hu (by rw [hru, ← r1]; exact hr), hq, fun c2 s2 a2 Q hh hQ => ⟨c2, s2, rfl, leId c2, hh, hQ⟩⟩

/-! ### Views -/
def viewFin (k' : Con) (us' : List U) (n0 n1 : Nat) (s : S) (v : V) : Prop :=
  exU k'.outs fun os' => k'.post us' os' ∧ (if (List.range n1).all (fun r => decide (r < n0) || !((s.rows[r]?).any fun b => b.live)) then chkS k'.anc (fdVars s.vars 0 (k'.vars' us' os') (fdV (k'.ret us' os') v ⟨[], [], []⟩)) { s with lk := k'.lk } (k'.outS us' os') [k'.ret us' os'] [v] True else False)
/-- From a contract over parts to one over whole objects: one argument is opened, what has come back becomes an object, what was opened is shut. -/
def Con.view (E : Env) (k k' : Con) (op : VO) (back : Bool) (res : VR) : Prop :=
  allU k'.kn fun us' => k'.pre us' → opn E op (k'.st us') (k'.argV us') fun s0 args0 bk => match k.enter s0 args0 with
    | some us => k.pre us ∧ allU k.outs fun os => k.post us os → if k.goes s0 args0 none us os then
        newP E res (k'.st us').rows.length (k'.st us').objs.length (k.aft s0 args0 us os) (k.back s0 args0 us os) fun s2 v2 =>
          if back then bk s2 fun s3 => viewFin k' us' (k'.st us').rows.length s0.rows.length s3 v2 else viewFin k' us' (k'.st us').rows.length s0.rows.length s2 v2
      else False
    | none => False
theorem Con.view_sound {k k' : Con} {op : VO} {back : Bool} {res : VR} {g : FuncId} (hk : k.ok E P g) (hro : k'.ro = false) (hv : Con.view E k k' op back res) : k'.ok E P g := by
  intro us' hus hpre c vals hh hargs
  have hv := allU_spec hv us' hus hpre
  rw [hro] at hh ⊢
  obtain ⟨c1, s0, args0, bk, ho, hargs0, hK, hbk⟩ := opn_sound hh rfl hargs hv
  have hself := ho.raw.self ho.tm ho.lk (k'.st us').rows.length (k'.st us').objs.length
  rw [ho.w] at hself
  split at hK
  case h_2 => exact hK.elim
  rename_i us hus0
  have hcs := call_step (fp := baseT E c1 s0 (k'.st us').rows.length (k'.st us').objs.length) hk hself hus0 hK.1 hargs0
  rw [ho.w] at hcs
  refine hcs.mono ?_
  rintro e w' ⟨u, os, rfl, hos, hpost, hgo⟩
  have hq := allU_spec hK.2 os hos hpost
  split at hq
  case isFalse => exact hq.elim
  rename_i hgoes
  obtain ⟨c2, rfl, hh2, hr2⟩ := hgo hgoes
  have han := Anchd.baseT E c1 s0 (k'.st us').rows.length (k'.st us').objs.length
  obtain ⟨c3, s3, v3, ew3, _, hh3, hr3, hq3⟩ := newP_sound hh2 han hr2 hq
  have hfin : ∃ (c4 : C) (s4 : S), c4.w = c2.w ∧ Holds c.w (baseT E c1 s0 (k'.st us').rows.length (k'.st us').objs.length) c4 s4 ⟨#[], []⟩ ∧ RV c4 v3 u ∧ viewFin k' us' (k'.st us').rows.length s0.rows.length s4 v3 := by
    split at hq3
    · obtain ⟨c4, s4, ew4, le4, hh4, hq4⟩ := hbk c3 s3 _ _ hh3 hq3
      exact ⟨c4, s4, ew4.trans ew3, hh4, RV.le le4 _ _ hr3, hq4⟩
    · exact ⟨c3, s3, ew3, hh3, hr3, hq3⟩
  obtain ⟨c4, s4, ew4, hh4, hr4, hq4⟩ := hfin
  obtain ⟨os', hos', hpost', hq4⟩ := exU_spec hq4
  split at hq4
  case isFalse => exact hq4.elim
  rename_i hdead
  have hreb := Holds.rebase hh ho hh4 (fun r b h1 h2 hb => by
    have := List.all_eq_true.1 hdead r (by simpa using h2)
    rw [hb] at this
    simp only [Bool.or_eq_true, decide_eq_true_eq, Option.any_some, Bool.not_eq_true'] at this
    rcases this with z | z
    · omega
    · exact z)
  have hA := Con.anc_of k' us' E c
  rw [hro] at hA
  obtain ⟨_, hq5⟩ := chkS_sound (w0 := c.w) hA hq4
  obtain ⟨h1, h2⟩ := hq5 c4 ⟨#[], []⟩ ⟨#[], []⟩ hreb rfl
  have hr := h1 [u] (.cons hr4 .nil)
  simp only [RVs] at hr
  obtain ⟨u', us2, e, hu, e2⟩ := hr
  simp only [List.cons.injEq] at e
  obtain ⟨rfl, _⟩ := e
  exact ⟨u, os', c4.ren _ _ _ _, rfl, ew4.symm, hos', hpost', hu, h2 RVs.nil⟩

/-! ### Shut on the way -/
def subP (y : Nat) (e : Int × Int) : V → V
  | .lp x o => if x == y && o == 0 then .pt e else .lp x o
  | v => v
def S.subP (s : S) (y : Nat) (e : Int × Int) : S := { s with tmps := s.tmps.map (Fx.subP y e) }
theorem Holds.subP (h : Holds w0 fp c s a) {y : Nat} {e : Int × Int} (he : ∀ u, RV c (.lp y 0) u → RV c (.pt e) u) : Holds w0 fp c (s.subP y e) a := by
  refine h.same rfl rfl ?_ h.defers
  have key : ∀ (vs : List V) (us : List Value), RVs c vs us → RVs c (vs.map (Fx.subP y e)) us := by
    intro vs
    induction vs with
    | nil => intro us h; exact h
    | cons v vs ih =>
      intro us h
      simp only [RVs] at h
      obtain ⟨u, us', rfl, h1, h2⟩ := h
      refine .cons ?_ (ih _ h2)
      cases v with
      | lp x o =>
        simp only [Fx.subP]
        split
        · rename_i hc
          simp only [Bool.and_eq_true, beq_iff_eq] at hc
          obtain ⟨rfl, rfl⟩ := hc
          exact he u h1
        · exact h1
      | _ => exact h1
  exact key _ _ h.tmps
theorem GoesS.byC {its : List It} (hsh : shut its = true) (h : ∀ (c : C) (a : Act), Holds w0 fp c s a → ∃ (c' : C) (s' : S), c'.w = c.w ∧ Holds w0 fp c' s' a ∧ GoesS P f w0 fp R its s') : GoesS P f w0 fp R its s := fun p c a ht hh => by
  obtain ⟨c', s', hw, hh', hg⟩ := h c a hh
  cases p with
  | items l =>
    have := hg (.items l) c' a ht hh'
    show Goes P f R l a c.w
    rw [← hw]; exact this
  | open_ => rw [← ht] at hsh; cases hsh
  | pick => rw [← ht] at hsh; cases hsh
/-- What is to be shut ahead of an operation: a variable, and as what. -/
def shutOf (T : TypeId → TI) (s : S) (o : Op) : Option (Nat × Nat) :=
  match o with
  | .buildSlice t _ parts => match (T t).d with
    | .slice e => match (T e).d with
      | .ptr q => match (T q).kd with
        | some n => (evs s parts).findSome? fun p => match p.2 with | .lp y 0 => some (y, n) | _ => none
        | none => none
      | _ => none
    | _ => none
  | _ => none
def shutP (E : Env) (A : Anc) (s : S) (y n : Nat) (k : S → Prop) : Prop :=
  newP E (.a n) A.fix.length A.ob.length s (.lp y 0) fun s2 v => match v with | .pt e => k (s2.subP y e) | _ => False
theorem Anchd.of {A : Anc} (hA : A.of fp) : Anchd fp A.fix.length A.ob.length := ⟨fun i v hi => (hA.r i v hi).1, fun i v hi => (hA.o i v hi).1⟩
theorem GoesS.shutP {A : Anc} (hA : A.of fp) {its : List It} (hsh : shut its = true) {y n : Nat} {k : S → Prop} (hk : ∀ s', k s' → GoesS P f w0 fp R its s') (h : Fx.shutP fp.K A s y n k) : GoesS P f w0 fp R its s := by
  refine GoesS.byC hsh fun c a hh => ?_
  by_cases hy : y < c.nv
  · have hv : RV c (.lp y 0) (.pointer (some ⟨(c.g y).1, (c.g y).2 + 0, none⟩)) := by simp only [RV, and_true]; exact hy
    obtain ⟨c', s', v', hw, le, hh', hr', hq⟩ := newP_sound hh (Anchd.of hA) hv h
    split at hq
    · rename_i e
      refine ⟨c', _, hw, hh'.subP (fun u hu => ?_), hk _ hq⟩
      have hv' := RV.le le _ _ hv
      simp only [RV] at hv' hu hr' ⊢
      rw [hu.2, ← hr', hv'.2]
    · exact hq.elim
  · exfalso
    simp only [Fx.shutP, newP] at h
    obtain ⟨x, l, _, h⟩ := arenP_spec h
    split at h
    · obtain ⟨d, _, h⟩ := h
      split at h
      · rename_i hc
        simp only [Bool.and_eq_true, decide_eq_true_eq] at hc
        rw [hh.nv] at hy
        exact hy hc.1.2
      · exact h
    · exact h
/-- Roots that are read stay where they are. -/
def keepB (l : List Rt) (s s' : S) : Bool := l.all fun q => match q with
  | .v x => match s.vars[x]? with
    | some b => !b.live || (match s'.vars[x]? with | some b' => b'.live && b'.ct.size == b.ct.size | none => false)
    | none => true
  | .r r => match s.rows[r]? with
    | some b => !b.live || (match s'.rows[r]? with | some b' => b'.live && b'.fix == b.fix && b'.t.size == b.t.size | none => false)
    | none => true
  | .o _ => false
theorem keepB_sound {c' : C} {s' : S} {l : List Rt} (h : Holds w0 fp c s a) (le : c.Le c') (hk : keepB l s s' = true) (k o : Nat) (hr : RF c s l k o) : RF c' s' l k o := by
  rcases hr with hr | ⟨q, hq, hf⟩
  · exact .inl (le.F k o hr)
  · have hq' := List.all_eq_true.1 hk q hq
    refine .inr ⟨q, hq, ?_⟩
    cases q with
    | v x =>
      obtain ⟨b, hb, hl, hv⟩ := hf
      simp only [hb, hl, Bool.not_true, Bool.false_or] at hq'
      split at hq'
      · rename_i b' hb'
        simp only [Bool.and_eq_true, beq_iff_eq] at hq'
        refine ⟨b', hb', hq'.1, ?_⟩
        rw [hq'.2]
        have hx : x < c.nv := by rw [h.nv]; exact (List.getElem?_eq_some_iff.1 hb).1
        unfold varF at hv ⊢
        rw [le.g x hx]
        exact hv
      · cases hq'
    | r r =>
      obtain ⟨b, hb, hl, hv⟩ := hf
      simp only [hb, hl, Bool.not_true, Bool.false_or] at hq'
      split at hq'
      · rename_i b' hb'
        simp only [Bool.and_eq_true, beq_iff_eq] at hq'
        refine ⟨b', hb', hq'.1.1, ?_⟩
        rw [hq'.2, hq'.1.2]
        have hx : r < c.nr := by rw [h.nr]; exact (List.getElem?_eq_some_iff.1 hb).1
        rw [le.r r hx]
        exact hv
      · cases hq'
    | o x => cases hq'
theorem GoesS.byCP {m : Nat} {ops : Array Oper} {li : Array Bool} {j : Nat} {rds : List Rt} {K : List It} (h : ∀ (c : C) (a : Act), Holds w0 fp c s a → ∃ (c' : C) (s' : S), c'.w = c.w ∧ Holds w0 fp c' s' a ∧ (∀ k o, RF c s rds k o → RF c' s' rds k o) ∧ GoesS P f w0 fp R (.pickR m ops li j rds :: K) s') : GoesS P f w0 fp R (.pickR m ops li j rds :: K) s := fun p c a ht hh => by
  obtain ⟨c', s', hw, hh', hs, hg⟩ := h c a hh
  cases p with
  | items l =>
    have := hg (.items l) c' a ht hh'
    show Goes P f R l a c.w
    rw [← hw]; exact this
  | open_ => simp [Pos.its] at ht
  | pick n ops' li' j' rds' l =>
    have h1 := hg (.pick n ops' li' j' rds' l) c' a ht hh'
    simp only [Pos.its, List.cons.injEq, It.pickR.injEq] at ht
    obtain ⟨⟨rfl, rfl, rfl, rfl, rfl⟩, _⟩ := ht
    intro hsel
    have := h1 hsel
    rw [hw] at this
    refine wpOp_mono ?_ this
    intro a' w' hq
    rcases hq with ⟨h1, h2⟩ | hq
    · exact .inl ⟨h1.mono hs, wpE_mono _ hs _ _ _ h2⟩
    · exact .inr hq
def shutBad (T : TypeId → TI) (s : S) : List It → Option (Nat × Nat × List Rt)
  | .pickR _ ops _ j rds :: _ => match ops[j]? with
    | some o => (shutOf T s o.op).map fun p => (p.1, p.2, rds)
    | none => none
  | _ => none
theorem shutBad_app {T : TypeId → TI} {t K : List It} {p : Nat × Nat × List Rt} (h : Fx.shutBad T s t = some p) : Fx.shutBad T s (t ++ K) = some p := by
  cases t with
  | nil => simp [Fx.shutBad] at h
  | cons x t => cases x <;> first | (simp [Fx.shutBad] at h; done) | exact h
theorem GoesS.shutBad {A : Anc} (hA : A.of fp) {T : TypeId → TI} {its : List It} {y n : Nat} {rds : List Rt} (hsh : Fx.shutBad T s its = some (y, n, rds)) {k : S → Prop} (hk : ∀ s', k s' → GoesS P f w0 fp R its s') (h : Fx.shutP fp.K A s y n fun s2 => if keepB rds s s2 = true then k s2 else False) : GoesS P f w0 fp R its s := by
  obtain ⟨m, ops, li, j, K, rfl⟩ : ∃ m ops li j K, its = .pickR m ops li j rds :: K := by
    unfold Fx.shutBad at hsh
    split at hsh
    · rename_i m ops li j rds' K
      split at hsh
      · obtain ⟨p, _, e⟩ := Option.map_eq_some_iff.1 hsh
        injection e with _ e
        injection e with _ e
        subst e
        exact ⟨m, ops, li, j, K, rfl⟩
      · cases hsh
    · cases hsh
  refine GoesS.byCP fun c a hh => ?_
  by_cases hy : y < c.nv
  · have hv : RV c (.lp y 0) (.pointer (some ⟨(c.g y).1, (c.g y).2 + 0, none⟩)) := by simp only [RV, and_true]; exact hy
    obtain ⟨c', s', v', hw, le, hh', hr', hq⟩ := newP_sound hh (Anchd.of hA) hv h
    split at hq
    · rename_i e
      split at hq
      case isFalse => exact hq.elim
      rename_i hkeep
      refine ⟨c', _, hw, hh'.subP (fun u hu => ?_), keepB_sound hh le hkeep, hk _ hq⟩
      have hv' := RV.le le _ _ hv
      simp only [RV] at hv' hu hr' ⊢
      rw [hu.2, ← hr', hv'.2]
    · exact hq.elim
  · exfalso
    simp only [Fx.shutP, newP] at h
    obtain ⟨x, l, _, h⟩ := arenP_spec h
    split at h
    · obtain ⟨d, _, h⟩ := h
      split at h
      · rename_i hc
        simp only [Bool.and_eq_true, decide_eq_true_eq] at hc
        rw [hh.nv] at hy
        exact hy hc.1.2
      · exact h
    · exact h
/-- Results that become objects. -/
def shutRes (E : Env) (A : Anc) : List (Nat × VR) → List V → S → (List V → S → Prop) → Prop
  | [], vs, s, k => k vs s
  | (i, r) :: l, vs, s, k => match vs[i]? with
    | some (.lp y 0) => newP E r A.fix.length A.ob.length s (.lp y 0) fun s2 v2 => shutRes E A l (vs.set i v2) s2 k
    | _ => shutRes E A l vs s k
theorem shutRes_sound {A : Anc} (hA : A.of fp) {k : List V → S → Prop} (hk : ∀ vs s, k vs s → Fin w0 fp R vs s) : ∀ (l : List (Nat × VR)) (vs : List V) (s : S), shutRes fp.K A l vs s k → Fin w0 fp R vs s
  | [], vs, s, h => hk vs s h
  | (i, r) :: l, vs, s, h => by
    simp only [shutRes] at h
    split at h
    · rename_i y hy
      intro c a us hh hus
      obtain ⟨u, hu, hru⟩ := hus.get i hy
      obtain ⟨c', s', v', hw, le, hh', hr', hq⟩ := newP_sound hh (Anchd.of hA) hru h
      have := shutRes_sound hA hk l _ s' hq c' a us hh' (by
        have := RVs.set i (RVs.le le _ _ hus) hr'
        rwa [show us.set i u = us from by
          apply List.ext_getElem?
          intro j
          by_cases e : i = j
          · subst e; rw [List.getElem?_set_self (List.getElem?_eq_some_iff.1 hu).1, hu]
          · rw [List.getElem?_set_ne e]] at this)
      rw [← hw]; exact this
    · exact shutRes_sound hA hk l vs s h
end
end Go.Fx
