/- Views: from a contract over parts to one over whole objects. -/
import Derived.Test.YtplefbcgpbdkfaaDoorF1
set_option linter.all false
namespace Go.Fx
open Go Go.RowKit

section
variable {P : Program} {E : Env} {w0 : World} {fp : Base} {c : C} {s t : S} {a a' : Act}

structure OpnOK (E : Env) (c0 : C) (t0 : S) (c1 : C) (s0 : S) : Prop where
  raw : Raw E c1 s0
  w : c1.w = c0.w
  F : c1.F = c0.F
  foot : ∀ q k o, foot c1 s0 q k o → ∃ q', foot c0 t0 q' k o
  footr : ∀ r k o, r < t0.rows.length → Fx.foot c1 s0 (.r r) k o → Fx.foot c0 t0 (.r r) k o
  le : c0.Le c1
  lr : t0.rows.length ≤ s0.rows.length
  lv : t0.vars.length ≤ s0.vars.length
  rows : ∀ r, r < t0.rows.length → s0.rows[r]? = t0.rows[r]?
  objs : ∀ (x : Nat) (b : Ob), t0.objs[x]? = some b → b.live = true → b.k.still = true → ∃ b' : Ob, s0.objs[x]? = some b' ∧ b'.live = true ∧ b'.k.still = true
  tm : s0.tmps = []
  lk : s0.lk = ⟨0, 0, 0, s0.rows.length⟩
theorem Holds.rebase {c0 c1 : C} {t0 s0 : S} (h0 : Holds c0.w (baseOf E false c0 t0) c0 t0 ⟨#[], []⟩) (ho : OpnOK E c0 t0 c1 s0) (h : Holds c0.w (baseT E c1 s0 t0.rows.length t0.objs.length) c s a)
    (hdead : ∀ r b, t0.rows.length ≤ r → r < s0.rows.length → s.rows[r]? = some b → b.live = false) : Holds c0.w (baseOf E false c0 t0) c { s with lk := t0.lk } a := by
  have hfs : ∀ q k o, foot c { s with lk := t0.lk } q k o → foot c s q k o := fun q k o hq => by cases q <;> exact hq
  have hkp : ∀ k o, (baseT E c1 s0 t0.rows.length t0.objs.length).kp k o → (baseOf E false c0 t0).kp k o := fun k o hk => by
    obtain ⟨_, q, hq⟩ := hk
    exact ⟨rfl, ho.foot q k o hq⟩
  refine { keeps := h.keeps.mono hkp, eF := fun k o hF => h.eF k o (by show c1.F k o; rw [ho.F]; exact hF), eF2 := fun k o hF => (h.eF2 k o hF).imp (fun z => by have z : c1.F k o := z; rw [ho.F] at z; exact z) id, lk := rfl, fpk := h0.fpk, tmps := h.tmps, defers := h.defers, nv := h.nv, nr := h.nr, nb := h.nb, vars := h.vars, rows := h.rows, objs := h.objs, disj := fun q q' k o h1 h2 => h.disj q q' k o (hfs _ _ _ h1) (hfs _ _ _ h2), mine := ?_, free := ?_, flt := h.flt, gl := h.gl, ag := ?_, ar := ?_, ao := ?_ }
  · intro q k o h1
    have h1 := hfs _ _ _ h1
    obtain ⟨m1, m2⟩ := h.mine q k o h1
    refine ⟨m1.imp id fun m => ?_, m2⟩
    cases q with
    | v x => obtain ⟨q', hq'⟩ := Base.own_some m; exact ho.foot q' k o hq'
    | o x => obtain ⟨q', hq'⟩ := Base.own_some m; exact ho.foot q' k o hq'
    | r r =>
      have m : foot c1 s0 (.r r) k o := m
      rcases Nat.lt_or_ge r t0.rows.length with hr | hr
      · exact ho.footr r k o hr m
      · obtain ⟨b, hb, _⟩ := m
        have hlt := (List.getElem?_eq_some_iff.1 hb).1
        obtain ⟨b', hb', hl', _⟩ := h1
        rw [hdead r b' hr hlt hb'] at hl'
        cases hl'
  · intro q k o h1 hq
    have h1 := hfs _ _ _ h1
    have : (baseT E c1 s0 t0.rows.length t0.objs.length).lk.has q = false := by
      show s0.lk.has q = false
      rw [ho.lk]; cases q <;> simp [LK.has]
    exact (h.free q k o h1 this).imp id (hkp k o)
  · intro x ad hx
    simp only [baseOf, List.getElem?_map, Option.map_eq_some_iff] at hx
    obtain ⟨y, hy, rfl⟩ := hx
    obtain ⟨h1, h2⟩ := List.getElem?_eq_some_iff.1 hy
    simp at h1 h2
    subst h2
    obtain ⟨q1, q2⟩ := h.ag x (c1.g x) (by simp only [baseT, baseOf, List.getElem?_map]; rw [List.getElem?_range (by have := ho.lv; omega)]; rfl)
    exact ⟨q1, q2.trans (ho.le.g x (by rw [h0.nv]; exact h1))⟩
  · intro r v hr
    simp only [baseOf, List.getElem?_map] at hr
    obtain ⟨y, hy, hr⟩ := Option.map_eq_some_iff.1 hr
    obtain ⟨h1, h2⟩ := List.getElem?_eq_some_iff.1 hy
    simp at h1 h2
    subst h2
    have hrow := ho.rows r h1
    have hc : c1.r r = c0.r r := ho.le.r r (by rw [h0.nr]; exact h1)
    refine h.ar r v ?_
    simp only [baseT, baseOf, List.getElem?_take, List.getElem?_map]
    rw [if_pos h1, List.getElem?_range (by have := ho.lr; omega)]
    simp only [Option.map_some, hrow, hc, Option.some.injEq]
    exact hr
  · intro x v hx
    simp only [baseOf, List.getElem?_map] at hx
    obtain ⟨y, hy, hx⟩ := Option.map_eq_some_iff.1 hx
    obtain ⟨h1, h2⟩ := List.getElem?_eq_some_iff.1 hy
    simp at h1 h2
    subst h2
    split at hx
    case h_2 => cases hx
    rename_i b hb
    split at hx
    case isFalse => cases hx
    rename_i hc
    simp only [Bool.and_eq_true] at hc
    obtain ⟨b', hb', hl', hs'⟩ := ho.objs x b hb hc.1 hc.2
    have hlt := (List.getElem?_eq_some_iff.1 hb').1
    have hob : c1.ob x = c0.ob x := ho.le.ob x (by rw [h0.nb]; exact h1)
    obtain rfl := Option.some.inj hx
    rw [← hob]
    refine h.ao x _ ?_
    simp only [baseT, baseOf, List.getElem?_take, List.getElem?_map]
    rw [if_pos h1, List.getElem?_range hlt]
    simp only [Option.map_some, hb', hl', hs', Bool.and_self, if_true]
theorem call_step {k : Con} {g : FuncId} (hk : k.ok fp.K P g) (h : Holds w0 fp c s a) {args : List V} {us : List U} {vals : List Value} (he : k.enter s args = some us) (hpre : k.pre us) (hv : RVs c args vals) :
    Calls P g vals.toArray c.w fun e w' => ∃ (u : Value) (os : List U), e = .returned u ∧ os.map U.t = k.outs ∧ k.post us os ∧ (k.goes s args none us os = true → ∃ c2 : C, c2.w = w' ∧ Holds w0 fp c2 (k.aft s args us os) a ∧ RV c2 (k.back s args us os) u) := by
  obtain ⟨h1, _, _, _, _, _, h5, h6, _⟩ := Con.enter_sound h he vals hv
  refine Calls.mono (hk us h1 hpre (k.lendC c s (k.sg s args)) _ h5 h6) fun e w' hq => ?_
  obtain ⟨u, os, c', rfl, rfl, hos, hpost, hret, hh'⟩ := hq
  refine ⟨u, os, rfl, hos, hpost, fun hl => ?_⟩
  simp only [Con.goes, Bool.and_eq_true] at hl
  obtain ⟨c2, e2, hh2, hr2, _⟩ := Con.after_sound h he vals hv hl.2 hh' hret
  exact ⟨c2, e2, hh2, hr2⟩

/-! ### Opened at the beginning -/
inductive VO where
  | none | o (i n : Nat) | a (i n : Nat) | m (i n : Nat)
inductive VR where
  | none | a (n : Nat) | o (n : Nat)
def backO (E : Env) (n x v nr nb : Nat) (s : S) (k : S → Prop) : Prop :=
  match (E.K n).con.enter s [.lp v 0] with
  | some ws => ∃ d : (E.K n).t.T, (E.K n).ok ws d ∧ (if okShut nr nb (E.K n).con ((E.K n).con.sg s [.lp v 0]) s x && decide (x < s.objs.length) then k (s.shutAt (E.K n).con ((E.K n).con.sg s [.lp v 0]) x ⟨true, .one n, (E.K n).t, d⟩) else False)
  | none => False
/-- Where all objects of a kind are, and which. -/
def arenP (E : Env) (n : Nat) (s : S) (k : Nat → List ((Int × Int) × (E.K n).t.T) → Prop) : Prop :=
  match arenOf n s.objs with
  | some x => match s.objs[x]? with
    | some ⟨true, .aren m, t, e⟩ => if m = n then (if h : t.eq (.sl (.p .pt (E.K n).t)) = true then k x (Tp.cast h e) else False) else False
    | _ => False
  | none => False
def backA (E : Env) (n v : Nat) (e : Int × Int) (nr nb : Nat) (s : S) (k : S → Prop) : Prop :=
  arenP E n s fun x l => match (E.K n).con.enter s [.lp v 0] with
    | some ws => ∃ d : (E.K n).t.T, (E.K n).ok ws d ∧ (if okShut nr nb (E.K n).con ((E.K n).con.sg s [.lp v 0]) s x && decide (v < s.vars.length) then k (s.shutAt (E.K n).con ((E.K n).con.sg s [.lp v 0]) x ⟨true, .aren n, .sl (.p .pt (E.K n).t), (e, d) :: l⟩) else False)
    | none => False
/-- What has come back becomes an object, or goes to all others of its kind. -/
def newP (E : Env) (r : VR) (nr nb : Nat) (s : S) (v : V) (k : S → V → Prop) : Prop :=
  match r with
  | .none => k s v
  | .o n => match v with
    | .lp y 0 => match (E.K n).con.enter s [.lp y 0] with
      | some ws => ∃ d : (E.K n).t.T, (E.K n).ok ws d ∧ (if okShut nr nb (E.K n).con ((E.K n).con.sg s [.lp y 0]) s s.objs.length && decide (y < s.vars.length) then k (s.shutAt (E.K n).con ((E.K n).con.sg s [.lp y 0]) s.objs.length ⟨true, .one n, (E.K n).t, d⟩) (.obj s.objs.length) else False)
      | none => False
    | _ => False
  | .a n => match v with
    | .lp y 0 => arenP E n s fun x l => match (E.K n).con.enter s [.lp y 0] with
      | some ws => ∃ d : (E.K n).t.T, (E.K n).ok ws d ∧ (if okShut nr nb (E.K n).con ((E.K n).con.sg s [.lp y 0]) s x && decide (y < s.vars.length) && (E.K n).good then ∀ e0 : Int × Int, (0 ≤ e0.1 ∧ 0 ≤ e0.2) → freshA l e0 → k (s.shutAt (E.K n).con ((E.K n).con.sg s [.lp y 0]) x ⟨true, .aren n, .sl (.p .pt (E.K n).t), (e0, d) :: l⟩) (.pt e0) else False)
      | none => False
    | _ => False
/-- Which roots are anchored. -/
structure Anchd (fp : Base) (nr nb : Nat) : Prop where
  r : ∀ i v, fp.r[i]? = some (some v) → i < nr
  o : ∀ i v, fp.o[i]? = some (some v) → i < nb
theorem okShut_spec (h : Holds w0 fp c s a) {nr nb x : Nat} (ha : Anchd fp nr nb) {k : Con} {σ : Sg} (hs : okShut nr nb k σ s x = true) : k.hit σ (.o x) = false ∧ (∀ i v, k.hit σ (.r i) = true → fp.r[i]? ≠ some (some v)) ∧ ∀ i v, k.hit σ (.o i) = true → fp.o[i]? ≠ some (some v) := by
  simp only [okShut, Bool.and_eq_true, Bool.not_eq_true'] at hs
  obtain ⟨⟨h1, h2⟩, h3⟩ := hs
  refine ⟨h1, fun i v hi hv => ?_, fun i v hi hv => ?_⟩
  · have := List.all_eq_true.1 h2 i (by simpa using ha.r i v hv)
    obtain ⟨_, b, hb, _, hf⟩ := h.ar i v hv
    simp [hi, hb, hf] at this
  · have := List.all_eq_true.1 h3 i (by simpa using ha.o i v hv)
    simp [hi] at this
theorem backO_sound (h : Holds w0 fp c s a) {n x v nr nb : Nat} {Q : S → Prop} (ha : Anchd fp nr nb) (hp : RV c (.lp v 0) (c.ob x)) (hq : backO fp.K n x v nr nb s Q) : ∃ (c' : C) (s' : S), c'.w = c.w ∧ c.Le c' ∧ Holds w0 fp c' s' a ∧ Q s' := by
  unfold backO at hq
  split at hq
  case h_2 => exact hq.elim
  rename_i ws he
  obtain ⟨d, hok, hq⟩ := hq
  split at hq
  case isFalse => exact hq.elim
  rename_i hc
  simp only [Bool.and_eq_true, decide_eq_true_eq] at hc
  obtain ⟨s1, s2, s3⟩ := okShut_spec h ha hc.1
  have h1 : (c.ob x).oneCell' = true := by simp only [RV] at hp; rw [hp.2]; rfl
  obtain ⟨f, hf⟩ := h.objOf he hp h1 hok
  obtain ⟨_, _, hmay, _⟩ := Con.enter_sound h he [c.ob x] (.cons hp .nil)
  obtain ⟨le, hh⟩ := h.shutAt (k := (fp.K.K n).con) rfl hmay (Nat.le_of_lt hc.2) s1 (b := ⟨true, .one n, (fp.K.K n).t, d⟩) rfl rfl (u := c.ob x) (fun _ => rfl) ⟨⟨f, hf⟩, fun k o ⟨q, q0, _, f0⟩ => foot_lt h f0, h1⟩ (fun p o z => .inl z) s2 s3
  exact ⟨c.shutAt x (c.ob x) _, _, rfl, le, hh, hq⟩
theorem arenP_spec {E : Env} {n : Nat} {s : S} {k : Nat → List ((Int × Int) × (E.K n).t.T) → Prop} (h : arenP E n s k) : ∃ x l, s.objs[x]? = some ⟨true, .aren n, .sl (.p .pt (E.K n).t), l⟩ ∧ k x l := by
  unfold arenP at h
  split at h
  case h_2 => exact h.elim
  rename_i x _
  split at h
  case h_2 => exact h.elim
  rename_i m t e hx
  split at h
  case isFalse => exact h.elim
  rename_i hm
  split at h
  case isFalse => exact h.elim
  rename_i ht
  subst hm
  obtain rfl := Tp.of_eq ht
  exact ⟨x, e, hx, h⟩
theorem backA_sound (h : Holds w0 fp c s a) {n v nr nb : Nat} {e : Int × Int} {Q : S → Prop} (ha : Anchd fp nr nb) (hg : (fp.K.K n).good = true) (he0 : 0 ≤ e.1 ∧ 0 ≤ e.2) (hp : RV c (.lp v 0) (ptrU e)) (hq : backA fp.K n v e nr nb s Q) : ∃ (c' : C) (s' : S), c'.w = c.w ∧ c.Le c' ∧ Holds w0 fp c' s' a ∧ Q s' := by
  obtain ⟨x, l, hx, hq⟩ := arenP_spec hq
  split at hq
  case h_2 => exact hq.elim
  rename_i ws he
  obtain ⟨d, hok, hq⟩ := hq
  split at hq
  case isFalse => exact hq.elim
  rename_i hc
  simp only [Bool.and_eq_true, decide_eq_true_eq] at hc
  obtain ⟨s1, s2, s3⟩ := okShut_spec h ha hc.1
  obtain ⟨e1, p1, _, p2, c', p3, p4, _, _, hh⟩ := h.shutA hg hx hc.2 he hok s1 s2 s3
  have : e1 = e := by
    refine ptrU_inj p1 he0 ?_
    simp only [RV] at hp
    rw [hp.2, p2, ptrU, if_neg (by simp only; omega)]
    simp
  subst this
  exact ⟨c', _, p3, p4, hh, hq⟩
theorem newP_sound (h : Holds w0 fp c s a) {r : VR} {nr nb : Nat} {v : V} {u : Value} {Q : S → V → Prop} (ha : Anchd fp nr nb) (hv : RV c v u) (hq : newP fp.K r nr nb s v Q) : ∃ (c' : C) (s' : S) (v' : V), c'.w = c.w ∧ c.Le c' ∧ Holds w0 fp c' s' a ∧ RV c' v' u ∧ Q s' v' := by
  cases r with
  | none => exact ⟨c, s, v, rfl, { F := fun _ _ h => h, spot := fun _ _ _ => rfl, g := fun _ _ => rfl, nv := Nat.le_refl _, r := fun _ _ => rfl, nr := Nat.le_refl _, ob := fun _ _ => rfl, nb := Nat.le_refl _ }, h, hv, hq⟩
  | o n =>
    simp only [newP] at hq
    split at hq
    case h_2 => exact hq.elim
    rename_i y
    split at hq
    case h_2 => exact hq.elim
    rename_i ws he
    obtain ⟨d, hok, hq⟩ := hq
    split at hq
    case isFalse => exact hq.elim
    rename_i hc
    simp only [Bool.and_eq_true, decide_eq_true_eq] at hc
    obtain ⟨s1, s2, s3⟩ := okShut_spec h ha hc.1
    have h1 : u.oneCell' = true := by simp only [RV] at hv; rw [hv.2]; rfl
    obtain ⟨f, hf⟩ := h.objOf he hv h1 hok
    obtain ⟨_, _, hmay, _⟩ := Con.enter_sound h he [u] (.cons hv .nil)
    obtain ⟨le, hh⟩ := h.shutAt (k := (fp.K.K n).con) rfl hmay (Nat.le_refl _) s1 (b := ⟨true, .one n, (fp.K.K n).t, d⟩) rfl rfl (u := u) (fun z => absurd z (Nat.lt_irrefl _)) ⟨⟨f, hf⟩, fun k o ⟨q, q0, _, f0⟩ => foot_lt h f0, h1⟩ (fun p o z => .inl z) s2 s3
    refine ⟨c.shutAt s.objs.length u _, _, _, rfl, le, hh, ?_, hq⟩
    simp only [RV, C.shutAt, if_true, and_true, true_and]
    exact ⟨by rw [h.nb, if_neg (Nat.lt_irrefl _)]; exact Nat.lt_succ_self _, h1⟩
  | a n =>
    simp only [newP] at hq
    split at hq
    case h_2 => exact hq.elim
    rename_i y
    obtain ⟨x, l, hx, hq⟩ := arenP_spec hq
    split at hq
    case h_2 => exact hq.elim
    rename_i ws he
    obtain ⟨d, hok, hq⟩ := hq
    split at hq
    case isFalse => exact hq.elim
    rename_i hc
    simp only [Bool.and_eq_true, decide_eq_true_eq] at hc
    obtain ⟨s1, s2, s3⟩ := okShut_spec h ha hc.1.1
    obtain ⟨e1, p1, pf, p2, c', p3, p4, _, _, hh⟩ := h.shutA hc.2 hx hc.1.2 he hok s1 s2 s3
    refine ⟨c', _, _, p3, p4, hh, ?_, hq e1 p1 pf⟩
    simp only [RV] at hv ⊢
    rw [hv.2, p2, ptrU, if_neg (by simp only; omega)]
    simp

/-! ### Opening -/
/-- One object alone. -/
def oneS (t : Tp) (n : Nat) (d : t.T) : S := ⟨[], [], [], [⟨true, .one n, t, d⟩], [], ⟨0, 0, 0, 0⟩⟩
def okP (p : S) : Bool := p.vars.all fun v => v.ct.okB p.vars.length p.rows.length p.objs.length false
def opn (E : Env) (op : VO) (t : S) (args : List V) (K : S → List V → (S → (S → Prop) → Prop) → Prop) : Prop :=
  match op with
  | .none => K { t with lk := ⟨0, 0, 0, t.rows.length⟩ } args (fun s Q => Q s)
  | .o i n => match args[i]? with
    | some (.obj x) => match t.objs[x]? with
      | some ⟨true, .one m, tt, e⟩ => if m = n then (if h : tt.eq (E.K n).t = true then (if (E.K n).good then allU (E.K n).kn fun ws => (E.K n).ok ws (Tp.cast h e) → (if okP ((E.K n).st ws) then K (t.openAt x ⟨true, .opq, .bo, false⟩ ((E.K n).st ws)) (args.set i (.lp t.vars.length 0)) (backO E n x t.vars.length t.rows.length t.objs.length) else False) else False) else False) else False
      | _ => False
    | _ => False
  | .a i n => match args[i]? with
    | some (.pt e) => arenP E n t fun x l => if (E.K n).good then hasA e l = true ∧ allU (E.K n).kn fun ws => (E.K n).ok ws (getA (E.K n).t.z e l) → (if okP ((E.K n).st ws) then K (t.openAt x ⟨true, .aren n, .sl (.p .pt (E.K n).t), delA e l⟩ ((E.K n).st ws)) (args.set i (.lp t.vars.length 0)) (backA E n t.vars.length e t.rows.length t.objs.length) else False) else False
    | _ => False
  | .m i n => match args[i]? with
    | some (.pt e) => arenP E n t fun x l => hasA e l = true ∧ K (t.openAt x ⟨true, .aren n, .sl (.p .pt (E.K n).t), delA e l⟩ (oneS (E.K n).t n (getA (E.K n).t.z e l))) (args.set i (.obj t.objs.length)) (fun s Q => Q s)
    | _ => False
theorem OpnOK.ofOne (h : Raw E c t) (htm : t.tmps = []) {x : Nat} {b : Ob} (hb : t.objs[x]? = some b) (hbl : b.live = true) {f n : Nat} {d : (E.K n).t.T} {u : Value} {D1 D' : Foot} (hone : ObjR E f (.one n) (E.K n).t d c.w c.F u D1) (hD1 : ∀ k o, D1 k o → c.fo x k o) {b' : Ob} (hb' : ObjOK E c.w c.F b' (c.ob x) D')
    (hb'l : b'.live = true) (hb's : b'.k.still = true) (hD' : ∀ k o, D' k o → c.fo x k o ∧ ¬ D1 k o) (hg : (E.K n).good = true) :
    ∃ (ws : List U) (lc : C), ws.map U.t = (E.K n).kn ∧ (E.K n).ok ws d ∧ (okP ((E.K n).st ws) = true → OpnOK E c t (c.openAt lc x D') (t.openAt x b' ((E.K n).st ws)) ∧ RV (c.openAt lc x D') (.lp t.vars.length 0) u) := by
  cases f with
  | zero => exact hone.elim
  | succ f =>
    obtain ⟨ws, lc, h0, h1, h2, h3, h4, h6, h7, h8, h9, h10, h11, h12, h13, h14, h15⟩ := hone
    rw [Tp.cast_rfl] at h2
    refine ⟨ws, lc, h1, h2, fun hok => ?_⟩
    have hbnd : ∀ k o, c.fo x k o → k < c.w.heap.size := (h.objs x b hb hbl).2.1
    have raw := h.openAt (b' := b') (p := (E.K n).st ws) (lc := lc) (D' := D') hb hbl h3 h4 h6 h7 h8 (fun y v hv hl => ⟨h11 y v hv hl, by have := List.all_eq_true.1 hok v (List.mem_of_getElem? hv); exact this⟩) h12
      (fun y v hv hl => ⟨⟨f, (h13 y v hv hl).1⟩, fun k o hk => hbnd k o (hD1 k o (h15 (.o y) k o ⟨v, hv, hl, hk⟩)), (h13 y v hv hl).2⟩) h14 (fun q k o hq => hD1 k o (h15 q k o hq)) (fun _ => hb') (fun _ k o hk => ⟨(hD' k o hk).1, fun q hq => (hD' k o hk).2 (h15 q k o hq)⟩)
    have hff := h.open_foot (b' := b') (p := (E.K n).st ws) (lc := lc) (D' := D') hb h6 h7 h8
    have hox : ∀ k o, c.fo x k o → Fx.foot c t (.o x) k o := fun k o hk => ⟨b, hb, hbl, hk⟩
    refine ⟨⟨raw, rfl, rfl, fun q k o hq => ?_, fun r k o hr hq => ?_, c.openAt_le lc x D', by simp [S.openAt], by simp [S.openAt], fun r hr => by simp only [S.openAt]; rw [List.getElem?_append_left hr], fun y v hv hl hs => ?_, htm, by simp [S.openAt]⟩, ?_⟩
    · rcases hff q k o hq with ⟨_, f1⟩ | ⟨_, _, f1⟩ | ⟨q1, f1, _⟩
      · exact ⟨q, f1⟩
      · exact ⟨_, hox k o (hD' k o f1).1⟩
      · exact ⟨_, hox k o (hD1 k o (h15 _ k o f1))⟩
    · rcases hff _ k o hq with ⟨_, f1⟩ | ⟨e, _, _⟩ | ⟨q1, f1, e⟩
      · exact f1
      · cases e
      · cases q1 with
        | v i => cases e
        | r i => simp only [shR, Rt.r.injEq] at e; omega
        | o i => cases e
    · have hlt := (List.getElem?_eq_some_iff.1 hv).1
      by_cases e : x = y
      · subst e
        exact ⟨b', by simp only [S.openAt]; rw [List.getElem?_append_left (by rw [List.length_set]; exact hlt), List.getElem?_set_self hlt], hb'l, hb's⟩
      · exact ⟨v, by simp only [S.openAt]; rw [List.getElem?_append_left (by rw [List.length_set]; exact hlt), List.getElem?_set_ne e]; exact hv, hl, hs⟩
    · rw [Kn.good_ret hg] at h9
      simp only [RV] at h9 ⊢
      refine ⟨by show _ < c.nv + lc.nv; rw [h.nv]; omega, ?_⟩
      simp only [C.openAt]
      rw [if_neg (by rw [h.nv]; omega), h.nv, Nat.sub_self]
      exact h9.2
theorem OpnOK.ofMove (h : Raw E c t) (htm : t.tmps = []) {x : Nat} {b : Ob} (hb : t.objs[x]? = some b) (hbl : b.live = true) {f n : Nat} {d : (E.K n).t.T} {u : Value} {D1 D' : Foot} (hone : ObjR E f (.one n) (E.K n).t d c.w c.F u D1) (h1 : u.oneCell' = true) (hD1 : ∀ k o, D1 k o → c.fo x k o) {b' : Ob} (hb' : ObjOK E c.w c.F b' (c.ob x) D')
    (hb'l : b'.live = true) (hb's : b'.k.still = true) (hD' : ∀ k o, D' k o → c.fo x k o ∧ ¬ D1 k o) :
    ∃ (lc : C), OpnOK E c t (c.openAt lc x D') (t.openAt x b' (oneS (E.K n).t n d)) ∧ RV (c.openAt lc x D') (.obj t.objs.length) u := by
  have hbnd : ∀ k o, c.fo x k o → k < c.w.heap.size := (h.objs x b hb hbl).2.1
  have hlc : ∃ lc : C, lc.w = c.w ∧ lc.F = c.F ∧ lc.nv = 0 ∧ lc.nr = 0 ∧ lc.nb = 1 ∧ lc.ob 0 = u ∧ lc.fo 0 = D1 := ⟨⟨c.w, c.F, fun _ => (0, 0), fun _ => undef, fun _ => u, fun _ => D1, 0, 0, 1⟩, rfl, rfl, rfl, rfl, rfl, rfl, rfl⟩
  obtain ⟨lc, e1, e2, e3, e4, e5, e6, e7⟩ := hlc
  have hfo : ∀ q k o, Fx.foot lc (oneS (E.K n).t n d) q k o → q = .o 0 ∧ D1 k o := fun q k o hq => by
    cases q with
    | v i => obtain ⟨b, hb, _⟩ := hq; simp [oneS] at hb
    | r i => obtain ⟨b, hb, _⟩ := hq; simp [oneS] at hb
    | o i =>
      obtain ⟨b, hb, _, hk⟩ := hq
      cases i with
      | zero => exact ⟨rfl, by rw [← e7]; exact hk⟩
      | succ i => simp [oneS] at hb
  have raw := h.openAt (b' := b') (p := oneS (E.K n).t n d) (lc := lc) (D' := D') hb hbl e1 e2 e3 e4 e5 (fun y v hv hl => by simp [oneS] at hv) (fun y v hv hl => by simp [oneS] at hv)
    (fun y v hv hl => by
      cases y with
      | zero =>
        obtain rfl := Option.some.inj hv
        rw [e6, e7]
        exact ⟨⟨f, hone⟩, fun k o hk => hbnd k o (hD1 k o hk), h1⟩
      | succ y => simp [oneS] at hv) (fun q q' k o h1 h2 => by rw [(hfo q k o h1).1, (hfo q' k o h2).1]) (fun q k o hq => hD1 k o (hfo q k o hq).2) (fun _ => hb') (fun _ k o hk => ⟨(hD' k o hk).1, fun q hq => (hD' k o hk).2 (hfo q k o hq).2⟩)
  have hff := h.open_foot (b' := b') (p := oneS (E.K n).t n d) (lc := lc) (D' := D') hb e3 e4 e5
  have hox : ∀ k o, c.fo x k o → Fx.foot c t (.o x) k o := fun k o hk => ⟨b, hb, hbl, hk⟩
  refine ⟨lc, ⟨raw, rfl, rfl, fun q k o hq => ?_, fun r k o hr hq => ?_, c.openAt_le lc x D', by simp [S.openAt], by simp [S.openAt], fun r hr => by simp only [S.openAt]; rw [List.getElem?_append_left hr], fun y v hv hl hs => ?_, htm, by simp [S.openAt]⟩, ?_⟩
  · rcases hff q k o hq with ⟨_, f1⟩ | ⟨_, _, f1⟩ | ⟨q1, f1, _⟩
    · exact ⟨q, f1⟩
    · exact ⟨_, hox k o (hD' k o f1).1⟩
    · exact ⟨_, hox k o (hD1 k o (hfo _ k o f1).2)⟩
  · rcases hff _ k o hq with ⟨_, f1⟩ | ⟨e, _, _⟩ | ⟨q1, f1, e⟩
    · exact f1
    · cases e
    · cases q1 with
      | v i => cases e
      | r i => exact absurd (hfo _ k o f1).1 (by simp)
      | o i => cases e
  · have hlt := (List.getElem?_eq_some_iff.1 hv).1
    by_cases e : x = y
    · subst e
      exact ⟨b', by simp only [S.openAt]; rw [List.getElem?_append_left (by rw [List.length_set]; exact hlt), List.getElem?_set_self hlt], hb'l, hb's⟩
    · exact ⟨v, by simp only [S.openAt]; rw [List.getElem?_append_left (by rw [List.length_set]; exact hlt), List.getElem?_set_ne e]; exact hv, hl, hs⟩
  · simp only [RV]
    refine ⟨by show _ < c.nb + lc.nb; rw [h.nb, e5]; omega, ?_⟩
    simp only [C.openAt]
    rw [if_neg (by rw [h.nb]; omega), h.nb, Nat.sub_self, e6]
    exact ⟨rfl, h1⟩
end
end Go.Fx
