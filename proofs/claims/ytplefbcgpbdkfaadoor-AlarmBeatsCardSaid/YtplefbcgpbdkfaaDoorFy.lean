/- Objects opened and shut: contracts under which callers see whole objects. -/
import Derived.Test.YtplefbcgpbdkfaaDoorFu
set_option linter.all false
namespace Go.Fx
open Go Go.RowKit

def askOK (k : Con) (σ : Sg) : Option (List Rt) → Bool
  | none => true
  | some l => l.all fun q => !k.hit σ q
/-- What is known after a call, and what has come back. -/
def Con.aft (k : Con) (s : S) (args : List V) (us os : List U) : S := k.after s (k.sg s args) (k.vars' us os) (k.rows' us os) (k.objs' us os)
def Con.back (k : Con) (s : S) (args : List V) (us os : List U) : V :=
  renV (mvF (k.sg s args) k.vars.length s.vars.length) (mrF (k.sg s args) k.rows.length s.rows.length (frs (k.sg s args) k.rows.length (k.rows' us os).length)) (moF (k.sg s args) k.objs.length s.objs.length) (k.ret us os)
def Con.goes (k : Con) (s : S) (args : List V) (ask : Option (List Rt)) (us os : List U) : Bool :=
  askOK k (k.sg s args) ask && k.leave (k.vars' us os) (k.rows' us os) (k.objs' us os) (k.ret us os)

section
variable {P : Program} {E : Env} {w0 : World} {fp : Base} {c : C} {s t : S} {a a' : Act}

/-! ### What is owned, whoever asks -/
structure Raw (E : Env) (c : C) (s : S) : Prop where
  nv : c.nv = s.vars.length
  nr : c.nr = s.rows.length
  nb : c.nb = s.objs.length
  vars : ∀ x b, s.vars[x]? = some b → b.live = true → VarOK c x b
  rows : ∀ r b, s.rows[r]? = some b → b.live = true → RowOK c r b
  objs : ∀ x b, s.objs[x]? = some b → b.live = true → ObjOK E c.w c.F b (c.ob x) (c.fo x)
  disj : ∀ q q' k o, foot c s q k o → foot c s q' k o → q = q'
  nF : ∀ q k o, foot c s q k o → ¬ c.F k o
  flt : ∀ k o, c.F k o → k < c.w.heap.size
  gl : ∀ p ∈ E.gl, c.F p.1.1 p.1.2 ∧ c.w.cell? ⟨p.1.1, p.1.2, none⟩ = some p.2
theorem Holds.raw (h : Holds w0 fp c s a) : Raw fp.K c s := ⟨h.nv, h.nr, h.nb, h.vars, h.rows, h.objs, h.disj, fun q k o hf => (h.mine q k o hf).2, h.flt, h.gl⟩
/-- The ground of what begins here; so many rows and objects are anchored. -/
def baseT (E : Env) (c : C) (s : S) (nr nb : Nat) : Base := { baseOf E false c s with r := (baseOf E false c s).r.take nr, o := (baseOf E false c s).o.take nb }
theorem Raw.self (h : Raw E c s) (ht : s.tmps = []) (hlk : s.lk = ⟨0, 0, 0, s.rows.length⟩) (nr nb : Nat) : Holds c.w (baseT E c s nr nb) c s ⟨#[], []⟩ := by
  refine { keeps := Keeps.refl _ _, eF := fun _ _ h => h, eF2 := fun _ _ h => .inl h, lk := rfl, fpk := ⟨?_, ?_, ?_, ?_, ?_⟩, tmps := by rw [ht]; exact RVs.nil, defers := rfl, nv := h.nv, nr := h.nr, nb := h.nb, vars := h.vars, rows := h.rows, objs := h.objs, disj := h.disj, mine := fun q k o hf => ⟨.inr (Base.own_self hf), h.nF q k o hf⟩, free := fun q k o hf _ => .inr ⟨rfl, q, hf⟩, flt := h.flt, gl := h.gl, ag := ?_, ar := ?_, ao := ?_ }
  · show s.lk.v ≤ _; rw [hlk]; exact Nat.zero_le _
  · intro r hr
    have hr : r < s.lk.r := hr
    rw [hlk] at hr; cases hr
  · show s.lk.o = 0; rw [hlk]
  · intro x k o hx hf
    have hx : s.lk.gr ≤ x := hx
    rw [hlk] at hx
    obtain ⟨b, hb, _⟩ := hf
    have := (List.getElem?_eq_some_iff.1 hb).1
    simp only at hx
    omega
  · intro r v hr
    show r < s.lk.gr
    rw [hlk]
    simp only [baseT, baseOf, List.getElem?_take, List.getElem?_map] at hr
    split at hr
    · obtain ⟨y, hy, hr⟩ := Option.map_eq_some_iff.1 hr
      have := (List.getElem?_eq_some_iff.1 hy).1
      simpa using this
    · cases hr
  · intro x ad hx
    simp only [baseT, baseOf, List.getElem?_map, Option.map_eq_some_iff] at hx
    obtain ⟨y, hy, rfl⟩ := hx
    obtain ⟨h1, h2⟩ := List.getElem?_eq_some_iff.1 hy
    simp at h1 h2
    subst h2
    exact ⟨by rw [h.nv]; exact h1, rfl⟩
  · intro r v hr
    simp only [baseT, baseOf, List.getElem?_take, List.getElem?_map] at hr
    split at hr
    · obtain ⟨y, hy, hr⟩ := Option.map_eq_some_iff.1 hr
      obtain ⟨h1, h2⟩ := List.getElem?_eq_some_iff.1 hy
      simp at h1 h2
      subst h2
      split at hr
      · rename_i b hb
        split at hr
        · rename_i hc
          simp only [Bool.and_eq_true] at hc
          exact ⟨Option.some.inj hr, b, hb, hc.1, hc.2⟩
        · cases hr
      · cases hr
    · cases hr
  · intro r v hr
    simp only [baseT, baseOf, List.getElem?_take, List.getElem?_map] at hr
    split at hr
    · obtain ⟨y, hy, hr⟩ := Option.map_eq_some_iff.1 hr
      obtain ⟨h1, h2⟩ := List.getElem?_eq_some_iff.1 hy
      simp at h1 h2
      subst h2
      split at hr
      · rename_i b hb
        split at hr
        · rename_i hc
          simp only [Bool.and_eq_true] at hc
          exact ⟨Option.some.inj hr, b, hb, hc.1, hc.2⟩
        · cases hr
      · cases hr
    · cases hr

/-! ### Opening -/
def S.openAt (s : S) (x : Nat) (b' : Ob) (p : S) : S :=
  { s with
    vars := s.vars ++ p.vars.map (fun b => ⟨b.live, b.ct.ren (· + s.vars.length) (· + s.rows.length) (· + s.objs.length)⟩)
    rows := s.rows ++ p.rows
    objs := s.objs.set x b' ++ p.objs
    lk := ⟨0, 0, 0, s.rows.length + p.rows.length⟩ }
def C.openAt (c lc : C) (x : Nat) (D' : Foot) : C := { c with
  g := fun i => if i < c.nv then c.g i else lc.g (i - c.nv)
  r := fun i => if i < c.nr then c.r i else lc.r (i - c.nr)
  ob := fun i => if i < c.nb then c.ob i else lc.ob (i - c.nb)
  fo := fun i => if i = x then D' else if i < c.nb then c.fo i else lc.fo (i - c.nb)
  nv := c.nv + lc.nv
  nr := c.nr + lc.nr
  nb := c.nb + lc.nb }
def shR (nv nr nb : Nat) : Rt → Rt
  | .v i => .v (i + nv)
  | .r i => .r (i + nr)
  | .o i => .o (i + nb)
theorem C.openAt_le (c lc : C) (x : Nat) (D' : Foot) : c.Le (c.openAt lc x D') :=
  { F := fun _ _ h => h, spot := fun _ _ _ => rfl, g := fun i hi => by simp only [C.openAt]; rw [if_pos hi], nv := Nat.le_add_right _ _, r := fun i hi => by simp only [C.openAt]; rw [if_pos hi], nr := Nat.le_add_right _ _, ob := fun i hi => by simp only [C.openAt]; rw [if_pos hi], nb := Nat.le_add_right _ _ }
theorem Raw.open_foot (h : Raw E c s) {x : Nat} {b b' : Ob} {p : S} {lc : C} {D' : Foot} (hb : s.objs[x]? = some b) (hnv : lc.nv = p.vars.length) (hnr : lc.nr = p.rows.length) (hnb : lc.nb = p.objs.length) :
    ∀ q k o, foot (c.openAt lc x D') (s.openAt x b' p) q k o → (q ≠ .o x ∧ foot c s q k o) ∨ (q = .o x ∧ b'.live = true ∧ D' k o) ∨ ∃ q', foot lc p q' k o ∧ q = shR s.vars.length s.rows.length s.objs.length q' := by
  have hxl := (List.getElem?_eq_some_iff.1 hb).1
  have hG : ∀ i, i < p.vars.length → (i + s.vars.length) < (c.openAt lc x D').nv ∧ (c.openAt lc x D').g (i + s.vars.length) = lc.g i := fun i hi => ⟨by show _ < c.nv + lc.nv; rw [h.nv, hnv]; omega, by simp only [C.openAt]; rw [if_neg (by rw [h.nv]; omega), h.nv, Nat.add_sub_cancel]⟩
  have hR : ∀ i, i < p.rows.length → (i + s.rows.length) < (c.openAt lc x D').nr ∧ (c.openAt lc x D').r (i + s.rows.length) = lc.r i := fun i hi => ⟨by show _ < c.nr + lc.nr; rw [h.nr, hnr]; omega, by simp only [C.openAt]; rw [if_neg (by rw [h.nr]; omega), h.nr, Nat.add_sub_cancel]⟩
  have hO : ∀ i, i < p.objs.length → (i + s.objs.length) < (c.openAt lc x D').nb ∧ (c.openAt lc x D').ob (i + s.objs.length) = lc.ob i := fun i hi => ⟨by show _ < c.nb + lc.nb; rw [h.nb, hnb]; omega, by simp only [C.openAt]; rw [if_neg (by rw [h.nb]; omega), h.nb, Nat.add_sub_cancel]⟩
  have hOf : ∀ i, i < p.objs.length → (c.openAt lc x D').fo (i + s.objs.length) = lc.fo i := fun i hi => by simp only [C.openAt]; rw [if_neg (by omega), if_neg (by rw [h.nb]; omega), h.nb, Nat.add_sub_cancel]
  intro q k o hq
  cases q with
  | v y =>
    obtain ⟨v, hv, hl, hf⟩ := hq
    simp only [S.openAt, List.getElem?_append, List.getElem?_map] at hv
    split at hv
    · rename_i hy
      refine .inl ⟨(fun e => by cases e), ⟨v, hv, hl, ?_⟩⟩
      · unfold varF at hf ⊢
        simp only [C.openAt] at hf
        rwa [if_pos (by rw [h.nv]; exact hy)] at hf
    · rename_i hy
      obtain ⟨v0, hv0, rfl⟩ := Option.map_eq_some_iff.1 hv
      have hlt := (List.getElem?_eq_some_iff.1 hv0).1
      refine .inr (.inr ⟨.v (y - s.vars.length), ⟨v0, hv0, hl, ?_⟩, by simp only [shR]; congr 1; omega⟩)
      simp only [Ctn.ren_size] at hf
      unfold varF at hf ⊢
      have := (hG _ hlt).2
      rw [show y - s.vars.length + s.vars.length = y from by omega] at this
      rwa [this] at hf
  | r y =>
    obtain ⟨v, hv, hl, hf⟩ := hq
    simp only [S.openAt, List.getElem?_append] at hv
    split at hv
    · rename_i hy
      refine .inl ⟨(fun e => by cases e), ⟨v, hv, hl, ?_⟩⟩
      · simp only [C.openAt] at hf
        rwa [if_pos (by rw [h.nr]; exact hy)] at hf
    · rename_i hy
      have hlt := (List.getElem?_eq_some_iff.1 hv).1
      refine .inr (.inr ⟨.r (y - s.rows.length), ⟨v, hv, hl, ?_⟩, by simp only [shR]; congr 1; omega⟩)
      have := (hR _ hlt).2
      rw [show y - s.rows.length + s.rows.length = y from by omega] at this
      rwa [this] at hf
  | o y =>
    obtain ⟨v, hv, hl, hf⟩ := hq
    simp only [S.openAt, List.getElem?_append, List.length_set, List.getElem?_set] at hv
    split at hv
    · rename_i hy
      split at hv
      · rename_i e
        subst e
        obtain rfl := Option.some.inj hv
        simp only [C.openAt, if_true] at hf
        exact .inr (.inl ⟨rfl, hl, hf⟩)
      · rename_i e
        refine .inl ⟨fun e' => by injection e' with e'; exact e e'.symm, ⟨v, hv, hl, ?_⟩⟩
        · simp only [C.openAt] at hf
          rwa [if_neg (fun q => e q.symm), if_pos (by rw [h.nb]; exact hy)] at hf
    · rename_i hy
      have hlt := (List.getElem?_eq_some_iff.1 hv).1
      refine .inr (.inr ⟨.o (y - s.objs.length), ⟨v, hv, hl, ?_⟩, by simp only [shR]; congr 1; omega⟩)
      have := hOf _ hlt
      rw [show y - s.objs.length + s.objs.length = y from by omega] at this
      rwa [this] at hf
theorem Raw.openAt (h : Raw E c s) {x : Nat} {b b' : Ob} {p : S} {lc : C} {D' : Foot} (hb : s.objs[x]? = some b) (hbl : b.live = true) (hw : lc.w = c.w) (hF : lc.F = c.F) (hnv : lc.nv = p.vars.length) (hnr : lc.nr = p.rows.length) (hnb : lc.nb = p.objs.length)
    (hpv : ∀ y v, p.vars[y]? = some v → v.live = true → VarOK lc y v ∧ v.ct.okB p.vars.length p.rows.length p.objs.length false = true) (hpr : ∀ y v, p.rows[y]? = some v → v.live = true → RowOK lc y v) (hpo : ∀ y v, p.objs[y]? = some v → v.live = true → ObjOK E c.w c.F v (lc.ob y) (lc.fo y))
    (hpd : ∀ q q' k o, foot lc p q k o → foot lc p q' k o → q = q') (hpD : ∀ q k o, foot lc p q k o → c.fo x k o)
    (hb' : b'.live = true → ObjOK E c.w c.F b' (c.ob x) D') (hD' : b'.live = true → ∀ k o, D' k o → c.fo x k o ∧ ∀ q, ¬ foot lc p q k o) : Raw E (c.openAt lc x D') (s.openAt x b' p) := by
  have hxl := (List.getElem?_eq_some_iff.1 hb).1
  have hle := c.openAt_le lc x D'
  have le0 : lc.Le0 (c.openAt lc x D') := ⟨fun k o hf => by show c.F k o; rw [← hF]; exact hf, fun k o _ => by show spot c.w k o = _; rw [hw]⟩
  have hG : ∀ i, i < p.vars.length → (i + s.vars.length) < (c.openAt lc x D').nv ∧ (c.openAt lc x D').g (i + s.vars.length) = lc.g i := fun i hi => ⟨by show _ < c.nv + lc.nv; rw [h.nv, hnv]; omega, by simp only [C.openAt]; rw [if_neg (by rw [h.nv]; omega), h.nv, Nat.add_sub_cancel]⟩
  have hR : ∀ i, i < p.rows.length → (i + s.rows.length) < (c.openAt lc x D').nr ∧ (c.openAt lc x D').r (i + s.rows.length) = lc.r i := fun i hi => ⟨by show _ < c.nr + lc.nr; rw [h.nr, hnr]; omega, by simp only [C.openAt]; rw [if_neg (by rw [h.nr]; omega), h.nr, Nat.add_sub_cancel]⟩
  have hO : ∀ i, i < p.objs.length → (i + s.objs.length) < (c.openAt lc x D').nb ∧ (c.openAt lc x D').ob (i + s.objs.length) = lc.ob i := fun i hi => ⟨by show _ < c.nb + lc.nb; rw [h.nb, hnb]; omega, by simp only [C.openAt]; rw [if_neg (by rw [h.nb]; omega), h.nb, Nat.add_sub_cancel]⟩
  have hOf : ∀ i, i < p.objs.length → (c.openAt lc x D').fo (i + s.objs.length) = lc.fo i := fun i hi => by simp only [C.openAt]; rw [if_neg (by omega), if_neg (by rw [h.nb]; omega), h.nb, Nat.add_sub_cancel]
  have hff := h.open_foot (b' := b') (D' := D') hb hnv hnr hnb
  have hox : ∀ k o, c.fo x k o → foot c s (.o x) k o := fun k o hk => ⟨b, hb, hbl, hk⟩
  refine ⟨?_, ?_, ?_, ?_, ?_, ?_, ?_, ?_, h.flt, h.gl⟩
  · simp [C.openAt, S.openAt, h.nv, hnv]
  · simp [C.openAt, S.openAt, h.nr, hnr]
  · simp [C.openAt, S.openAt, h.nb, hnb]
  · intro y v hv hl
    simp only [S.openAt, List.getElem?_append, List.getElem?_map] at hv
    split at hv
    · rename_i hy
      exact (h.vars y v hv hl).keep (fun _ _ _ => rfl) (hle.g y (by rw [h.nv]; exact hy)) rfl (fun us hr => hr.le hle)
    · rename_i hy
      obtain ⟨v0, hv0, rfl⟩ := Option.map_eq_some_iff.1 hv
      have hlt := (List.getElem?_eq_some_iff.1 hv0).1
      obtain ⟨q1, q2⟩ := hpv _ v0 hv0 hl
      obtain ⟨xs, hc, hu⟩ := q1.at_
      have hg := (hG _ hlt).2
      rw [show y - s.vars.length + s.vars.length = y from by omega] at hg
      refine ⟨by simp only [Ctn.ren_size]; exact q1.pos, xs, ?_, ?_⟩
      · rw [hg]; show Cells c.w _ _ _; rw [← hw]; exact hc
      · cases hct : v0.ct with
        | pk t e => rw [hct] at hu; exact Rp.le le0 hu
        | ls l =>
          rw [hct] at hu q2
          exact RVs.ren (fun _ => le0) hG hR hO l xs q2 hu
  · intro y v hv hl
    simp only [S.openAt, List.getElem?_append] at hv
    split at hv
    · rename_i hy
      exact (h.rows y v hv hl).keep (fun _ _ _ => rfl) (hle.r y (by rw [h.nr]; exact hy)) hle.toLe0
    · rename_i hy
      have hlt := (List.getElem?_eq_some_iff.1 hv).1
      have q1 := hpr _ v hv hl
      obtain ⟨xs, hat, hRp⟩ := q1.at_
      have hg := (hR _ hlt).2
      rw [show y - s.rows.length + s.rows.length = y from by omega] at hg
      refine ⟨q1.len, xs, ?_, hRp.le le0⟩
      rw [hg]; show RowAt c.w _ _ _ _ _ _; rw [← hw]; exact hat
  · intro y v hv hl
    simp only [S.openAt, List.getElem?_append, List.length_set, List.getElem?_set] at hv
    split at hv
    · rename_i hy
      split at hv
      · rename_i e
        subst e
        obtain rfl := Option.some.inj hv
        have := hb' hl
        simp only [C.openAt, if_true]
        rwa [if_pos (by rw [h.nb]; exact hxl)]
      · rename_i e
        have := h.objs y v hv hl
        simp only [C.openAt]
        have hy' : y < c.nb := by rw [h.nb]; exact hy
        have hne : ¬ y = x := fun q => e q.symm
        rw [if_pos hy', if_neg hne, if_pos hy']; exact this
    · rename_i hy
      have hlt := (List.getElem?_eq_some_iff.1 hv).1
      have := hpo _ v hv hl
      have hg := (hO _ hlt).2
      have hf := hOf _ hlt
      rw [show y - s.objs.length + s.objs.length = y from by omega] at hg hf
      rw [hg, hf]; exact this
  · intro q q' k o h1 h2
    rcases hff q k o h1 with ⟨n1, f1⟩ | ⟨e1, l1, f1⟩ | ⟨q1, f1, e1⟩ <;> rcases hff q' k o h2 with ⟨n2, f2⟩ | ⟨e2, l2, f2⟩ | ⟨q2, f2, e2⟩
    · exact h.disj _ _ k o f1 f2
    · exact absurd (h.disj _ _ k o f1 (hox k o (hD' l2 k o f2).1)) n1
    · exact absurd (h.disj _ _ k o f1 (hox k o (hpD _ k o f2))) n1
    · exact absurd (h.disj _ _ k o f2 (hox k o (hD' l1 k o f1).1)) n2
    · rw [e1, e2]
    · exact absurd f2 ((hD' l1 k o f1).2 q2)
    · exact absurd (h.disj _ _ k o f2 (hox k o (hpD _ k o f1))) n2
    · exact absurd f1 ((hD' l2 k o f2).2 q1)
    · rw [e1, e2, hpd _ _ k o f1 f2]
  · intro q k o h1
    rcases hff q k o h1 with ⟨_, f1⟩ | ⟨_, l1, f1⟩ | ⟨q1, f1, _⟩
    · exact h.nF q k o f1
    · exact h.nF _ k o (hox k o (hD' l1 k o f1).1)
    · exact h.nF _ k o (hox k o (hpD _ k o f1))
end
end Go.Fx
