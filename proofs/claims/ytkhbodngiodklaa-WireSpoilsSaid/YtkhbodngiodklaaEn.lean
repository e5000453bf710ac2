/- Calls, by their contracts. -/
import Derived.Test.YtkhbodngiodklaaEm
set_option linter.all false
namespace Go.Ex
open Go Go.RowKit

/-! ### What is read at a call -/
def rowOf : V → Option Nat
  | .own r => some r
  | .vw r _ _ _ => some r
  | _ => none
/-- A slice's list, but not of a row that the call may turn. -/
def rdTail (s : S) (used : List Nat) (t : Tp) (v : V) : Option (List t.T) :=
  if (rowOf v).any used.contains then none else (tailOf s t v).map (·.2)
def rd1 (s : S) (used : List Nat) : (t : Tp) → V → Option t.T
  | .sl t, v => rdTail s used t v
  | t, v => asD1 t v
def rdDs (s : S) (used : List Nat) : (t : Tp) → List V → Option (t.T × List V)
  | .p a b, l => match rdDs s used a l with
    | some (x, l) => match rdDs s used b l with
      | some (y, l) => some ((x, y), l)
      | none => none
    | none => none
  | .i k, v :: l => (rd1 s used (.i k) v).map fun x => (x, l)
  | .bo, v :: l => (rd1 s used .bo v).map fun x => (x, l)
  | .tx, v :: l => (rd1 s used .tx v).map fun x => (x, l)
  | .sl t, v :: l => (rd1 s used (.sl t) v).map fun x => (x, l)
  | _, [] => none
def rdA (s : S) (used : List Nat) (t : Tp) : V → Option t.T
  | .x t' e => if t.isP then (if h : t'.eq t then some (Tp.cast h e) else none) else none
  | .agg l => if t.isP then (match rdDs s used t l with | some (x, []) => some x | _ => none) else none
  | v => if t.isP then none else rd1 s used t v
def fdVPs (s : List Var) : Nat → List VP → Sg → Sg
  | _, [], σ => σ
  | k, p :: ps, σ => fdVPs s (k + 1) ps (match p, s[σ.sv k]? with | .ls shs, some b => fdSs shs b.ct.cells σ | _, _ => σ)
def VP.rd (σ : Sg) (nv nr : Nat) (b : Var) : VP → Option (List U)
  | .pk t => match b.ct with
    | .pk q e => if h : q.eq t then some [⟨t, Tp.cast h e⟩] else none
    | .ls l => (asDl t l).map fun d => [⟨t, d⟩]
  | .ls shs => Sh.rds (fun t v => asD t v) σ nv nr shs b.ct.cells
def VP.rds (s : List Var) (σ : Sg) (nv nr : Nat) : Nat → List VP → Option (List U)
  | _, [] => some []
  | k, p :: ps => match s[σ.sv k]? with
    | some b => if b.live then (match p.rd σ nv nr b, VP.rds s σ nv nr (k + 1) ps with
      | some us, some vs => some (us ++ vs)
      | _, _ => none) else none
    | none => none
def RP.rds (s : List Row) (σ : Sg) : Nat → List RP → Option (List U)
  | _, [] => some []
  | k, p :: ps => match (match σ.sr k with
      | some r => match s[r]? with
        | some b => if b.live && b.e == p.e && (p.fix || !b.fix) then (if h : b.t.eq p.t then some (⟨.sl p.t, Tp.castL h b.l⟩ : U) else none) else none
        | none => none
      | none => if p.fix then none else some ⟨.sl p.t, []⟩), RP.rds s σ (k + 1) ps with
    | some u, some vs => some (u :: vs)
    | _, _ => none
def Con.sg (k : Con) (s : S) (args : List V) : Sg := fdVPs s.vars 0 k.vars (fdSs k.args args ⟨[], []⟩)
def usedR (σ : Sg) (nr : Nat) : List Nat := (List.range nr).filterMap σ.sr
def Con.enter (k : Con) (s : S) (args : List V) : Option (List U) :=
  let σ := k.sg s args
  if σ.ok k.vars.length k.rows.length then
    match Sh.rds (rdA s (usedR σ k.rows.length)) σ k.vars.length k.rows.length k.args args, VP.rds s.vars σ k.vars.length k.rows.length 0 k.vars, RP.rds s.rows σ 0 k.rows with
    | some a, some b, some c => some (a ++ (b ++ c))
    | _, _, _ => none
  else none

section
variable {P : Program} {T : TypeId → TI} {w0 : World} {fp : Base} {c : C} {s t : S} {a a' : Act} {f : FuncId} {R : Ending → World → Prop}

/-- The callee's side. -/
def C.lend (c : C) (s : S) (σ : Sg) (nv nr : Nat) : C := { c.ren σ nv nr with F := fun k o => c.F k o ∨ ∃ r, (usedR σ nr).contains r = false ∧ foot c s (.r r) k o }
theorem C.lend_le0 (c : C) (s : S) (σ : Sg) (nv nr : Nat) : c.Le0 (c.lend s σ nv nr) := ⟨fun _ _ h => .inl h, fun _ _ _ => rfl⟩
theorem C.lend_RV {σ : Sg} {nv nr : Nat} (v : V) (u : Value) (h : RV (c.ren σ nv nr) v u) : RV (c.lend s σ nv nr) v u :=
  RV.le (c := c.ren σ nv nr) (c' := c.lend s σ nv nr) { F := fun _ _ h => .inl h, spot := fun _ _ _ => rfl, g := fun _ _ => rfl, nv := Nat.le_refl _, r := fun _ _ => rfl, nr := Nat.le_refl _ } v u h
theorem rdTail_sound (h : Holds w0 fp c s a) {σ : Sg} {nv nr : Nat} {t : Tp} {v : V} {u : Value} {d : List t.T} (hr : RV c v u) (hd : rdTail s (usedR σ nr) t v = some d) : Rp (c.lend s σ nv nr) (.sl t) d [u] := by
  unfold rdTail at hd
  split at hd
  · cases hd
  rename_i hu
  obtain ⟨⟨n, l⟩, ht, rfl⟩ := Option.map_eq_some_iff.1 hd
  obtain ⟨A, cp, news, rfl, _, h1, h2, hR, hnews⟩ := tailOf_sound h hr ht
  refine ⟨A, cp, rfl, h1, h2, ?_⟩
  rcases hnews with h3 | ⟨g, o, rfl, hc, hl⟩
  · exact .inl h3
  · refine .inr ⟨g, o, news, rfl, ⟨fun j hj => ?_, hc, hR.one⟩, hR.le (c.lend_le0 s σ nv nr)⟩
    rcases hl j hj with q | ⟨r, hr', q⟩
    · exact .inl q
    · refine .inr ⟨r, ?_, q⟩
      have hro : rowOf v = some r := by rcases hr' with rfl | ⟨_, _, _, rfl⟩ <;> rfl
      rw [hro] at hu
      simpa using hu
theorem rd1_sound (h : Holds w0 fp c s a) {σ : Sg} {nv nr : Nat} : ∀ {t : Tp} {v : V} {u : Value} {d : t.T}, RV c v u → rd1 s (usedR σ nr) t v = some d → Rp (c.lend s σ nv nr) t d [u]
  | .sl t, v, u, d, hr, hd => rdTail_sound h hr hd
  | .i k, v, u, d, hr, hd | .bo, v, u, d, hr, hd | .tx, v, u, d, hr, hd | .p _ _, v, u, d, hr, hd => (asD1_sound hr (by simpa only [rd1] using hd)).le (c.lend_le0 s σ nv nr)
theorem rdDs_one (h : Holds w0 fp c s a) {σ : Sg} {nv nr : Nat} {t : Tp} {v : V} {l l' : List V} {us : List Value} {d : t.T} (hr : RVs c (v :: l) us) (hd : (rd1 s (usedR σ nr) t v).map (fun x => (x, l)) = some (d, l')) (ht : t.size = 1) : Rp (c.lend s σ nv nr) t d (us.take t.size) ∧ RVs c l' (us.drop t.size) := by
  obtain ⟨x, hx, e⟩ := Option.map_eq_some_iff.1 hd
  obtain ⟨rfl, rfl⟩ := Prod.mk.inj e
  simp only [RVs] at hr
  obtain ⟨u, us', rfl, hu, hs⟩ := hr
  rw [ht]
  exact ⟨by simpa using rd1_sound h hu hx, by simpa using hs⟩
theorem rdDs_sound (h : Holds w0 fp c s a) {σ : Sg} {nv nr : Nat} : ∀ {t : Tp} {l l' : List V} {us : List Value} {d : t.T}, RVs c l us → rdDs s (usedR σ nr) t l = some (d, l') → Rp (c.lend s σ nv nr) t d (us.take t.size) ∧ RVs c l' (us.drop t.size)
  | .p x y, l, l', us, d, hr, hd => by
    simp only [rdDs] at hd
    split at hd
    case h_2 => cases hd
    rename_i d1 l1 h1
    split at hd
    case h_2 => cases hd
    rename_i d2 l2 h2
    obtain ⟨rfl, rfl⟩ := Prod.mk.inj (Option.some.inj hd)
    obtain ⟨p1, q1⟩ := rdDs_sound h hr h1
    obtain ⟨p2, q2⟩ := rdDs_sound h q1 h2
    refine ⟨⟨_, _, ?_, p1, p2⟩, ?_⟩
    · simp only [Tp.size]; rw [List.take_add]
    · simpa only [Tp.size, List.drop_drop] using q2
  | .i k, v :: l, l', us, d, hr, hd => rdDs_one h hr (by simpa only [rdDs] using hd) rfl
  | .bo, v :: l, l', us, d, hr, hd => rdDs_one h hr (by simpa only [rdDs] using hd) rfl
  | .tx, v :: l, l', us, d, hr, hd => rdDs_one h hr (by simpa only [rdDs] using hd) rfl
  | .sl t, v :: l, l', us, d, hr, hd => rdDs_one h hr (by simpa only [rdDs] using hd) rfl
  | .i _, [], _, _, _, _, hd | .bo, [], _, _, _, _, hd | .tx, [], _, _, _, _, hd | .sl _, [], _, _, _, _, hd => by simp [rdDs] at hd
theorem rdA_sound (h : Holds w0 fp c s a) {σ : Sg} {nv nr : Nat} {t : Tp} {v : V} {u : Value} {d : t.T} (hd : rdA s (usedR σ nr) t v = some d) (hr : RV c v u) : RV (c.lend s σ nv nr) (toV t d) u := by
  unfold rdA at hd
  split at hd
  · rename_i t' e
    split at hd
    case isFalse => cases hd
    rename_i hp
    split at hd
    case isFalse => cases hd
    rename_i ht
    obtain rfl := Option.some.inj hd
    cases t with
    | p x y =>
      simp only [RV] at hr
      obtain ⟨us, rfl, hq⟩ := hr
      simp only [toV, RV]
      exact ⟨us, rfl, (hq.cast ht).le (c.lend_le0 s σ nv nr)⟩
    | _ => simp [Tp.isP] at hp
  · rename_i l
    split at hd
    case isFalse => cases hd
    rename_i hp
    split at hd
    case h_2 => cases hd
    rename_i x hx
    obtain rfl := Option.some.inj hd
    cases t with
    | p t1 t2 =>
      simp only [RV] at hr
      obtain ⟨us, rfl, hq⟩ := hr
      obtain ⟨h1, h2⟩ := rdDs_sound (nv := nv) h hq hx
      simp only [RVs] at h2
      have e : us.toList.take (Tp.p t1 t2).size = us.toList := List.take_of_length_le (by have := congrArg List.length h2; simp at this; simp; omega)
      rw [e] at h1
      simp only [toV, RV]
      exact ⟨us, rfl, h1⟩
    | _ => simp [Tp.isP] at hp
  · split at hd
    · cases hd
    · cases t with
      | sl t => 
        simp only [toV, RV, I.val]
        exact ⟨trivial, rdTail_sound h hr hd⟩
      | i k => exact C.lend_RV (σ := σ) (nv := nv) (nr := nr) _ _ (by have := asD1_RV hr (t := .i k) hd; simpa only [toV, RV] using this)
      | bo => exact C.lend_RV (σ := σ) (nv := nv) (nr := nr) _ _ (by have := asD1_RV hr (t := .bo) hd; simpa only [toV, RV] using this)
      | tx => exact C.lend_RV (σ := σ) (nv := nv) (nr := nr) _ _ (by have := asD1_RV hr (t := .tx) hd; simpa only [toV, RV] using this)
      | p x y => simp [rd1, asD1] at hd
theorem asD_lend {σ : Sg} {nv nr : Nat} {t : Tp} {v : V} {u : Value} {d : t.T} (hd : asD t v = some d) (hr : RV c v u) : RV (c.lend s σ nv nr) (toV t d) u := by
  have h := asD_RV hr hd
  have le := c.lend_le0 s σ nv nr
  cases t with
  | i k => simpa only [toV, RV] using h
  | bo => simpa only [toV, RV] using h
  | tx => simpa only [toV, RV] using h
  | p x y => simp only [toV, RV] at h ⊢; obtain ⟨us, e, hq⟩ := h; exact ⟨us, e, hq.le le⟩
  | sl t => simp only [toV, RV] at h ⊢; exact ⟨h.1, h.2.le le⟩
theorem VP.rd_sound {c : C} {s : S} {σ : Sg} {nv nr : Nat} {b : Var} {p : VP} {us : List U} (hd : p.rd σ nv nr b = some us) : us.map U.t = p.kn ∧ ∀ l, ∃ b' : Var, p.mk (us ++ l) = (b', l) ∧ b'.live = true ∧ ∀ xs, RCt c b.ct xs → RCt (c.lend s σ nv nr) b'.ct xs := by
  cases p with
  | pk t =>
    simp only [VP.rd] at hd
    split at hd
    · rename_i q e hct
      split at hd
      · rename_i ht
        obtain rfl := Option.some.inj hd
        refine ⟨rfl, fun l => ⟨⟨true, .pk t (Tp.cast ht e)⟩, by simp [VP.mk, U.as_self], rfl, fun xs hx => ?_⟩⟩
        rw [hct] at hx
        exact Rp.cast ht (Rp.le (c.lend_le0 s σ nv nr) hx)
      · cases hd
    · rename_i l0 hct
      obtain ⟨d, hd', rfl⟩ := Option.map_eq_some_iff.1 hd
      refine ⟨rfl, fun l => ⟨⟨true, .pk t d⟩, by simp [VP.mk, U.as_self], rfl, fun xs hx => ?_⟩⟩
      rw [hct] at hx
      exact (asDl_sound hx hd').le (c.lend_le0 s σ nv nr)
  | ls shs =>
    simp only [VP.rd] at hd
    refine ⟨by simpa only [VP.kn] using Sh.rds_kn _ _ _ hd, fun l => ?_⟩
    obtain ⟨vs', e, hs⟩ := Sh.rds_sound (c := c) (c1 := c.lend s σ nv nr) (fun v u h => C.lend_RV v u h) (fun t v d u hd hr => asD_lend hd hr) shs _ _ hd l
    exact ⟨⟨true, .ls vs'⟩, by simp only [VP.mk, e], rfl, fun xs hx => hs xs hx.cells⟩
theorem VP.rds_sound {c : C} {s : S} {σ : Sg} {nv nr : Nat} : ∀ {k : Nat} {ps : List VP} {us : List U}, VP.rds s.vars σ nv nr k ps = some us → us.map U.t = VP.kns ps ∧ ∀ l, ∃ bs : List Var, VP.mks ps (us ++ l) = (bs, l) ∧ bs.length = ps.length ∧
    ∀ (j : Nat) (b' : Var), bs[j]? = some b' → b'.live = true ∧ ∃ b : Var, s.vars[σ.sv (k + j)]? = some b ∧ b.live = true ∧ ∀ xs, RCt c b.ct xs → RCt (c.lend s σ nv nr) b'.ct xs
  | k, [], us, h => by
    obtain rfl := Option.some.inj h
    exact ⟨rfl, fun l => ⟨[], rfl, rfl, fun j b' hj => by simp at hj⟩⟩
  | k, p :: ps, us, h => by
    simp only [VP.rds] at h
    split at h
    case h_2 => cases h
    rename_i b hb
    split at h
    case isFalse => cases h
    rename_i hl
    split at h
    case h_2 => cases h
    rename_i us1 us2 h1 h2
    obtain rfl := Option.some.inj h
    obtain ⟨k1, m1⟩ := VP.rd_sound (c := c) (s := s) h1
    obtain ⟨k2, m2⟩ := VP.rds_sound (c := c) (s := s) h2
    refine ⟨by simp [VP.kns, k1, k2], fun l => ?_⟩
    obtain ⟨b1, e1, hl1, t1⟩ := m1 (us2 ++ l)
    obtain ⟨bs, e2, hn, t2⟩ := m2 l
    refine ⟨b1 :: bs, by simp [VP.mks, List.append_assoc, e1, e2], by simp [hn], fun j b' hj => ?_⟩
    cases j with
    | zero => simp at hj; subst hj; exact ⟨hl1, b, by simpa using hb, hl, t1⟩
    | succ j => rw [show k + (j + 1) = k + 1 + j from by omega]; exact t2 j b' (by simpa using hj)
theorem RP.rds_sound {s : S} {σ : Sg} : ∀ {k : Nat} {ps : List RP} {us : List U}, RP.rds s.rows σ k ps = some us → us.map U.t = RP.kns ps ∧ (RP.mks ps us).length = ps.length ∧
    ∀ (j : Nat) (b' : Row), (RP.mks ps us)[j]? = some b' → ∃ p, ps[j]? = some p ∧ b'.live = true ∧ b'.fix = p.fix ∧ b'.e = p.e ∧ b'.t = p.t ∧ b'.n.val = b'.l.length ∧
      ((∃ (r : Nat) (b : Row), σ.sr (k + j) = some r ∧ s.rows[r]? = some b ∧ b.live = true ∧ b.e = p.e ∧ (p.fix = true ∨ b.fix = false) ∧ ∃ h : b.t.eq b'.t = true, Tp.castL h b.l = b'.l) ∨ (σ.sr (k + j) = none ∧ p.fix = false ∧ b'.l = []))
  | k, [], us, h => by
    obtain rfl := Option.some.inj h
    exact ⟨rfl, rfl, fun j b' hj => by simp [RP.mks] at hj⟩
  | k, p :: ps, us, h => by
    simp only [RP.rds] at h
    split at h
    case h_2 => cases h
    rename_i u vs h1 h2
    obtain rfl := Option.some.inj h
    obtain ⟨k2, n2, m2⟩ := RP.rds_sound h2
    have key : ∃ l : List p.t.T, u = ⟨.sl p.t, l⟩ ∧ ((∃ (r : Nat) (b : Row), σ.sr k = some r ∧ s.rows[r]? = some b ∧ b.live = true ∧ b.e = p.e ∧ (p.fix = true ∨ b.fix = false) ∧ ∃ h : b.t.eq p.t = true, Tp.castL h b.l = l) ∨ (σ.sr k = none ∧ p.fix = false ∧ l = [])) := by
      split at h1
      · rename_i r hr
        split at h1
        case h_2 => cases h1
        rename_i b hb
        split at h1
        case isFalse => cases h1
        rename_i hc
        simp only [Bool.and_eq_true, beq_iff_eq, Bool.or_eq_true, Bool.not_eq_true'] at hc
        split at h1
        case isFalse => cases h1
        rename_i ht
        obtain rfl := Option.some.inj h1
        exact ⟨_, rfl, .inl ⟨r, b, hr, hb, hc.1.1, hc.1.2, hc.2, ht, rfl⟩⟩
      · rename_i hr
        split at h1
        · cases h1
        · rename_i hf
          obtain rfl := Option.some.inj h1
          exact ⟨[], rfl, .inr ⟨hr, by simpa using hf, rfl⟩⟩
    obtain ⟨l, rfl, hl⟩ := key
    refine ⟨by simp [RP.kns, k2], by simp [RP.mks, n2], fun j b' hj => ?_⟩
    cases j with
    | zero =>
      simp [RP.mks] at hj
      subst hj
      rw [U.as_self]
      exact ⟨p, rfl, rfl, rfl, rfl, rfl, rfl, hl⟩
    | succ j =>
      rw [show k + (j + 1) = k + 1 + j from by omega]
      simpa using m2 j b' (by simpa [RP.mks] using hj)

theorem RowAt.fixed {w : World} {fix : Bool} {e e' : TypeId} {sz : Nat} {v : Value} {n : Nat} {us : List Value} (h : RowAt w fix e sz v n us) : RowAt w true e' sz v n us := by
  refine ⟨h.len, ?_⟩
  rcases h.at_ with h1 | ⟨_, h1, h2⟩ | ⟨g, o, cap, e, h1, h2, h3, _⟩
  · exact .inl h1
  · exact .inr (.inl ⟨rfl, h1, h2⟩)
  · exact .inr (.inr ⟨g, o, cap, e, h1, h2, h3, fun h => by cases h⟩)
theorem rowF_mono {v : Value} {fix : Bool} {sz k o : Nat} (h : rowF v true sz k o) : rowF v fix sz k o := by
  unfold rowF at h ⊢
  split at h
  · simp only [Bool.true_eq_false, false_or] at h
    exact ⟨h.1, .inr h.2⟩
  · exact h.elim
/-- The call's beginning. -/
theorem Con.enter_sound {k : Con} {args : List V} {us : List U} (h : Holds w0 fp c s a) (he : k.enter s args = some us) (ws : List Value) (hws : RVs c args ws) :
    us.map U.t = k.kn ∧ (k.sg s args).ok k.vars.length k.rows.length = true ∧ (k.st us).vars.length = k.vars.length ∧ (k.st us).rows.length = k.rows.length ∧
      Holds c.w (baseOf (c.lend s (k.sg s args) k.vars.length k.rows.length) (k.st us)) (c.lend s (k.sg s args) k.vars.length k.rows.length) (k.st us) ⟨#[], []⟩ ∧ RVs (c.lend s (k.sg s args) k.vars.length k.rows.length) (k.argV us) ws ∧
      (∀ x, x < k.vars.length → (k.sg s args).sv x < s.vars.length) ∧
      (∀ q p o, foot (c.lend s (k.sg s args) k.vars.length k.rows.length) (k.st us) q p o → (∃ x, q = .v x ∧ x < k.vars.length ∧ foot c s (.v ((k.sg s args).sv x)) p o) ∨ (∃ x r, q = .r x ∧ x < k.rows.length ∧ (k.sg s args).sr x = some r ∧ foot c s (.r r) p o)) ∧
      (∀ (j : Nat) (b' : Row), (k.st us).rows[j]? = some b' → ∃ p, k.rows[j]? = some p ∧ b'.live = true ∧ b'.fix = p.fix ∧ ((∃ (r : Nat) (b : Row), (k.sg s args).sr j = some r ∧ s.rows[r]? = some b ∧ b.live = true ∧ b.e = p.e ∧ (p.fix = true ∨ b.fix = false) ∧ b.t.eq p.t = true) ∨ ((k.sg s args).sr j = none ∧ p.fix = false))) := by
  unfold Con.enter at he
  simp only at he
  generalize hσ : k.sg s args = σ at he ⊢
  split at he
  case isFalse => cases he
  rename_i hok
  split at he
  case h_2 => cases he
  rename_i us1 us2 us3 h1 h2 h3
  obtain rfl := Option.some.inj he
  have k1 := Sh.rds_kn _ _ _ h1
  obtain ⟨vs', e1, q1⟩ := Sh.rds_sound (c := c) (c1 := c.lend s σ k.vars.length k.rows.length) (fun v u h => C.lend_RV v u h) (fun t v d u hd hr => rdA_sound h hd hr) k.args args us1 h1 (us2 ++ us3)
  obtain ⟨k2, m2⟩ := VP.rds_sound (c := c) (s := s) h2
  obtain ⟨bs, e2, n2, t2⟩ := m2 us3
  obtain ⟨k3, n3, t3⟩ := RP.rds_sound h3
  have hst : k.st (us1 ++ (us2 ++ us3)) = ⟨[], bs, RP.mks k.rows us3, []⟩ := by simp [Con.st, e1, e2]
  have harg : k.argV (us1 ++ (us2 ++ us3)) = vs' := by simp [Con.argV, e1]
  have le0 := c.lend_le0 s σ k.vars.length k.rows.length
  have rowEq : ∀ (x r : Nat), σ.sr x = some r → (c.lend s σ k.vars.length k.rows.length).r x = c.r r := fun x r e => by simp [C.lend, C.ren, e]
  have hff : ∀ q p o, foot (c.lend s σ k.vars.length k.rows.length) ⟨[], bs, RP.mks k.rows us3, []⟩ q p o → (∃ x, q = .v x ∧ x < k.vars.length ∧ foot c s (.v (σ.sv x)) p o) ∨ (∃ x r, q = .r x ∧ x < k.rows.length ∧ σ.sr x = some r ∧ foot c s (.r r) p o) := by
    intro q p o hq
    cases q with
    | v x =>
      obtain ⟨b', hb', hl', hk⟩ := hq
      obtain ⟨_, b, hb, hl, htr⟩ := t2 x b' hb'
      rw [Nat.zero_add] at hb
      obtain ⟨xs, _, hu⟩ := (h.vars _ b hb hl).at_
      have hsz : b.ct.size = b'.ct.size := by rw [← hu.length, ← (htr xs hu).length]
      exact .inl ⟨x, rfl, by rw [← n2]; exact (List.getElem?_eq_some_iff.1 hb').1, b, hb, hl, by rw [hsz]; exact hk⟩
    | r x =>
      obtain ⟨b', hb', hl', hk⟩ := hq
      obtain ⟨p', hp', _, hf', he', ht', _, hcase⟩ := t3 x b' hb'
      rw [Nat.zero_add] at hcase
      have hlt : x < k.rows.length := (List.getElem?_eq_some_iff.1 hp').1
      rcases hcase with ⟨r, b, hs, hb, hl, _, hfx, ht, _⟩ | ⟨hs, _, _⟩
      · have htt := Tp.of_eq ht
        refine .inr ⟨x, r, rfl, hlt, hs, b, hb, hl, ?_⟩
        rw [rowEq x r hs, ← htt, hf'] at hk
        rcases hfx with hfx | hfx
        · rw [hfx] at hk; exact rowF_mono hk
        · rw [hfx]
          cases hpf : p'.fix with
          | true => rw [hpf] at hk; exact rowF_mono hk
          | false => rw [hpf] at hk; exact hk
      · have : (c.lend s σ k.vars.length k.rows.length).r x = .slice none 0 0 := by simp [C.lend, C.ren, hs]
        rw [this] at hk; exact hk.elim
  refine ⟨by simp [Con.kn, k1, k2, k3], hok, by rw [hst]; exact n2, by rw [hst]; exact n3, ?_, by rw [harg]; exact q1 _ hws, ?_, by rw [hst]; exact hff, ?_⟩
  · rw [hst]
    refine { keeps := Keeps.refl _ _, eF := rfl, tmps := RVs.nil, defers := rfl, nv := n2.symm, nr := n3.symm, vars := ?_, rows := ?_, disj := ?_, mine := ?_, flt := ?_, ag := ?_, ar := ?_ }
    · intro x b' hb' _
      obtain ⟨_, b, hb, hl, htr⟩ := t2 x b' hb'
      rw [Nat.zero_add] at hb
      have hvar := h.vars _ b hb hl
      obtain ⟨xs, hc, hu⟩ := hvar.at_
      have hsz : b.ct.size = b'.ct.size := by rw [← hu.length, ← (htr xs hu).length]
      exact ⟨by rw [← hsz]; exact hvar.pos, xs, hc, htr xs hu⟩
    · intro x b' hb' _
      obtain ⟨p', hp', _, hf', he', ht', hn, hcase⟩ := t3 x b' hb'
      rw [Nat.zero_add] at hcase
      refine ⟨hn, ?_⟩
      rcases hcase with ⟨r, b, hs, hb, hl, hbe, hfx, ht, hll⟩ | ⟨hs, _, hll⟩
      · obtain ⟨xs, hat, hR⟩ := (h.rows r b hb hl).at_
        have hlen : b.l.length = b'.l.length := by rw [← hll, Tp.castL_length]
        refine ⟨xs, ?_, by rw [← hll]; exact (hR.cast ht).le le0⟩
        rw [rowEq x r hs, hf', he', ← hlen, ← hbe, show b'.t.size = b.t.size from by rw [Tp.of_eq ht]]
        rcases hfx with hfx | hfx
        · rw [hfx]; exact hat.fixed
        · cases hpf : p'.fix with
          | true => exact hat.fixed
          | false => rw [← hfx]; exact hat
      · exact ⟨[], ⟨by rw [hll]; simp, .inl ⟨by simp [C.lend, C.ren, hs], by rw [hll]; rfl⟩⟩, by rw [hll]; rfl⟩
    · intro q q' p o f1 f2
      rcases hff q p o f1 with ⟨x, rfl, hx, g1⟩ | ⟨x, r, rfl, hx, e1, g1⟩ <;> rcases hff q' p o f2 with ⟨x', rfl, hx', g2⟩ | ⟨x', r', rfl, hx', e2, g2⟩
      · have e := h.disj _ _ p o g1 g2
        injection e with e
        rw [Sg.sv_inj hok hx hx' e]
      · have e := h.disj _ _ p o g1 g2; cases e
      · have e := h.disj _ _ p o g1 g2; cases e
      · have e := h.disj _ _ p o g1 g2
        injection e with e
        subst e
        rw [Sg.sr_inj hok hx hx' e1 e2]
    · intro q p o f1
      refine ⟨.inr ⟨q, f1⟩, fun hF => ?_⟩
      rcases hff q p o f1 with ⟨x, rfl, hx, g1⟩ | ⟨x, r, rfl, hx, e1, g1⟩
      · rcases hF with hF | ⟨r', _, hF⟩
        · exact (h.mine _ p o g1).2 hF
        · have e := h.disj _ _ p o g1 hF; cases e
      · rcases hF with hF | ⟨r', hr', hF⟩
        · exact (h.mine _ p o g1).2 hF
        · have e := h.disj _ _ p o g1 hF
          injection e with e
          subst e
          have : (usedR σ k.rows.length).contains r = true := by
            simp only [List.contains_iff_mem, usedR, List.mem_filterMap]
            exact ⟨x, by simpa using hx, e1⟩
          rw [this] at hr'; cases hr'
    · intro p o hF
      rcases hF with hF | ⟨r, _, hF⟩
      · exact h.flt p o hF
      · exact foot_lt h hF
    · intro x ad hx
      simp only [baseOf, List.getElem?_map, Option.map_eq_some_iff] at hx
      obtain ⟨y, hy, rfl⟩ := hx
      obtain ⟨hlt, he⟩ := List.getElem?_eq_some_iff.1 hy
      simp at he hlt
      subst he
      exact ⟨by rw [← n2]; exact hlt, rfl⟩
    · intro r v hv
      simp only [baseOf, List.getElem?_map, Option.map_eq_some_iff] at hv
      obtain ⟨y, hy, e⟩ := hv
      obtain ⟨hlt, he⟩ := List.getElem?_eq_some_iff.1 hy
      simp at he hlt
      subst he
      split at e
      · rename_i b hb
        split at e
        · rename_i hc
          simp only [Bool.and_eq_true] at hc
          obtain rfl := Option.some.inj e
          exact ⟨rfl, b, hb, hc.1, hc.2⟩
        · cases e
      · cases e
  · intro x hx
    obtain ⟨_, b, hb, _⟩ := t2 x _ (List.getElem?_eq_getElem (by rw [n2]; exact hx))
    rw [Nat.zero_add] at hb
    exact (List.getElem?_eq_some_iff.1 hb).1
  · rw [hst]
    intro j b' hb'
    obtain ⟨p', hp', hl', hf', _, ht', _, hcase⟩ := t3 j b' hb'
    rw [Nat.zero_add] at hcase
    refine ⟨p', hp', hl', hf', ?_⟩
    rcases hcase with ⟨r, b, hs, hb, hl, hbe, hfx, ht, _⟩ | ⟨hs, hf, _⟩
    · exact .inl ⟨r, b, hs, hb, hl, hbe, hfx, by rw [← ht']; exact ht⟩
    · exact .inr ⟨hs, hf⟩
end
end Go.Ex
