/- Calls, by their contracts. -/
import Derived.Test.YtplefbcgpbdkfaaDoorFm
set_option linter.all false
namespace Go.Fx
open Go Go.RowKit

/-! ### What is read at a call -/
def rowOf : V → Option Nat
  | .own r => some r
  | .vw r _ _ _ => some r
  | _ => none
/-- A slice's list, but not of a row that the call may turn ('used'; none: of no row at all). -/
def rdTail (s : S) (used : Option (List Nat)) (t : Tp) (v : V) : Option (List t.T) :=
  if (rowOf v).any (fun r => match used with | some l => l.contains r | none => true) then none else (tailOf s t v).map (·.2)
def rd1 (s : S) (used : Option (List Nat)) : (t : Tp) → V → Option t.T
  | .sl t, v => rdTail s used t v
  | t, v => asD1 t v
def rdDs (s : S) (used : Option (List Nat)) : (t : Tp) → List V → Option (t.T × List V)
  | .p a b, l => match rdDs s used a l with
    | some (x, l) => match rdDs s used b l with
      | some (y, l) => some ((x, y), l)
      | none => none
    | none => none
  | .i k, v :: l => (rd1 s used (.i k) v).map fun x => (x, l)
  | .bo, v :: l => (rd1 s used .bo v).map fun x => (x, l)
  | .tx, v :: l => (rd1 s used .tx v).map fun x => (x, l)
  | .pt, v :: l => (rd1 s used .pt v).map fun x => (x, l)
  | .sl t, v :: l => (rd1 s used (.sl t) v).map fun x => (x, l)
  | .opt t, v :: l => (rd1 s used (.opt t) v).map fun x => (x, l)
  | _, [] => none
def rdA (s : S) (used : Option (List Nat)) (t : Tp) : V → Option t.T
  | .x t' e => if t.isP then (if h : t'.eq t then some (Tp.cast h e) else none) else none
  | .agg l => if t.isP then (match rdDs s used t l with | some (x, []) => some x | _ => none) else none
  | v => if t.isP then none else rd1 s used t v
def fdVPs (s : List Var) : Nat → List VP → Sg → Sg
  | _, [], σ => σ
  | k, p :: ps, σ => fdVPs s (k + 1) ps (match p, s[σ.sv k]? with | .ls shs, some b => fdSs shs b.ct.cells σ | _, _ => σ)
def VP.rd (σ : Sg) (nv nr nb : Nat) (b : Var) : VP → Option (List U)
  | .pk t => match b.ct with
    | .pk q e => if h : q.eq t then some [⟨t, Tp.cast h e⟩] else none
    | .ls l => (asDl t l).map fun d => [⟨t, d⟩]
  | .ls shs => Sh.rds (fun t v => asD t v) σ nv nr nb shs b.ct.cells
def VP.rds (s : List Var) (σ : Sg) (nv nr nb : Nat) : Nat → List VP → Option (List U)
  | _, [] => some []
  | k, p :: ps => match s[σ.sv k]? with
    | some b => if b.live then (match p.rd σ nv nr nb b, VP.rds s σ nv nr nb (k + 1) ps with
      | some us, some vs => some (us ++ vs)
      | _, _ => none) else none
    | none => none
def RP.rds (s : List Row) (σ : Sg) : Nat → List RP → Option (List U)
  | _, [] => some []
  | k, p :: ps => match (match σ.sr k with
      | some r => match s[r]? with
        | some b => if b.live && b.e == p.e && (p.fix || !b.fix) then (if h : b.t.eq p.t then some (⟨.sl p.t, Tp.castL h b.l⟩ : U) else none) else none
        | none => none
      | none => if p.fix then none else some ⟨.sl p.t, []⟩), RP.rds s σ (k + 1) ps with
    | some u, some vs => some (u :: vs)
    | _, _ => none
def OP.rds (s : List Ob) (σ : Sg) : Nat → List (OK × Tp) → Option (List U)
  | _, [] => some []
  | k, p :: ps => match (match s[σ.so k]? with
      | some b => if b.live && decide (b.k = p.1) then (if h : b.t.eq p.2 then some (⟨p.2, Tp.cast h b.e⟩ : U) else none) else none
      | none => none), OP.rds s σ (k + 1) ps with
    | some u, some vs => some (u :: vs)
    | _, _ => none
/-- Where all objects of a kind are held. -/
def arenOf (n : Nat) (os : List Ob) : Option Nat := os.findIdx? fun b => b.live && decide (b.k = .aren n)
def fdOPs (os : List Ob) : Nat → List (OK × Tp) → Sg → Sg
  | _, [], σ => σ
  | j, p :: ps, σ => fdOPs os (j + 1) ps (match p.1 with | .aren n => (match arenOf n os with | some x => σ.addO j x | none => σ) | _ => σ)
def Con.sg (k : Con) (s : S) (args : List V) : Sg := fdOPs s.objs 0 k.objs (fdVPs s.vars 0 k.vars (fdSs k.args args ⟨[], [], []⟩))
/-- May the call turn what it may turn? -/
def Con.may (k : Con) (s : S) (σ : Sg) : Bool :=
  if k.ro then k.rows.all RP.fix && k.objs.isEmpty
  else (List.range k.vars.length).all (fun x => !s.lk.has (.v (σ.sv x))) && (List.range k.rows.length).all (fun x => (σ.sr x).all fun r => !s.lk.has (.r r)) && (List.range k.objs.length).all (fun x => !s.lk.has (.o (σ.so x)))
def Con.used (k : Con) (σ : Sg) (nr : Nat) : Option (List Nat) := if k.lend then some ((List.range nr).filterMap σ.sr) else none
def usedR (σ : Sg) (nr : Nat) : List Nat := (List.range nr).filterMap σ.sr
def Con.enter (k : Con) (s : S) (args : List V) : Option (List U) :=
  let σ := k.sg s args
  if σ.ok k.vars.length k.rows.length k.objs.length && k.may s σ then
    match Sh.rds (rdA s (k.used σ k.rows.length)) σ k.vars.length k.rows.length k.objs.length k.args args, VP.rds s.vars σ k.vars.length k.rows.length k.objs.length 0 k.vars, RP.rds s.rows σ 0 k.rows, OP.rds s.objs σ 0 k.objs with
    | some a, some b, some c, some d => some (a ++ (b ++ (c ++ d)))
    | _, _, _, _ => none
  else none

section
variable {P : Program} {T : TypeId → TI} {w0 : World} {fp : Base} {c : C} {s t : S} {a a' : Act} {f : FuncId} {R : Ending → World → Prop}

/-- The callee's side. -/
def C.lend (c : C) (s : S) (σ : Sg) (nv nr nb : Nat) (lu : Option (List Nat)) : C := { c.ren σ nv nr nb with F := fun k o => c.F k o ∨ ∃ l, lu = some l ∧ ∃ r, l.contains r = false ∧ foot c s (.r r) k o }
theorem C.lend_le0 (c : C) (s : S) (σ : Sg) (nv nr nb : Nat) (lu : Option (List Nat)) : c.Le0 (c.lend s σ nv nr nb lu) := ⟨fun _ _ h => .inl h, fun _ _ _ => rfl⟩
theorem C.lend_RV {σ : Sg} {nv nr nb : Nat} {lu : Option (List Nat)} (v : V) (u : Value) (h : RV (c.ren σ nv nr nb) v u) : RV (c.lend s σ nv nr nb lu) v u :=
  RV.le (c := c.ren σ nv nr nb) (c' := c.lend s σ nv nr nb lu) { F := fun _ _ h => .inl h, spot := fun _ _ _ => rfl, g := fun _ _ => rfl, nv := Nat.le_refl _, r := fun _ _ => rfl, nr := Nat.le_refl _, ob := fun _ _ => rfl, nb := Nat.le_refl _ } v u h
/-- The callee's side. -/
def Con.lendC (k : Con) (c : C) (s : S) (σ : Sg) : C := c.lend s σ k.vars.length k.rows.length k.objs.length (k.used σ k.rows.length)
theorem rdTail_sound (h : Holds w0 fp c s a) {σ : Sg} {nv nr nb : Nat} {lu : Option (List Nat)} {t : Tp} {v : V} {u : Value} {d : List t.T} (hr : RV c v u) (hd : rdTail s lu t v = some d) : Rp (c.lend s σ nv nr nb lu) (.sl t) d [u] := by
  unfold rdTail at hd
  split at hd
  · cases hd
  rename_i hu
  obtain ⟨⟨n, l⟩, ht, rfl⟩ := Option.map_eq_some_iff.1 hd
  obtain ⟨A, cp, news, rfl, _, h1, h2, hR, hnews⟩ := tailOf_sound h hr ht
  refine ⟨A, cp, rfl, h1, h2, ?_⟩
  rcases hnews with h3 | ⟨g, o, rfl, hc, hl⟩
  · exact .inl h3
  · refine .inr ⟨g, o, news, rfl, ⟨fun j hj => ?_, hc, hR.one⟩, hR.le (c.lend_le0 s σ nv nr nb lu)⟩
    rcases hl j hj with q | ⟨r, hr', q⟩
    · exact .inl q
    · have hro : rowOf v = some r := by rcases hr' with rfl | ⟨_, _, _, rfl⟩ <;> rfl
      rw [hro] at hu
      cases hlu : lu with
      | none => rw [hlu] at hu; simp at hu
      | some l => rw [hlu] at hu; exact .inr ⟨l, rfl, r, by simpa using hu, q⟩
theorem rd1_sound (h : Holds w0 fp c s a) {σ : Sg} {nv nr nb : Nat} {lu : Option (List Nat)} : ∀ {t : Tp} {v : V} {u : Value} {d : t.T}, RV c v u → rd1 s lu t v = some d → Rp (c.lend s σ nv nr nb lu) t d [u]
  | .sl t, v, u, d, hr, hd => rdTail_sound h hr hd
  | .i k, v, u, d, hr, hd | .bo, v, u, d, hr, hd | .tx, v, u, d, hr, hd | .pt, v, u, d, hr, hd | .p _ _, v, u, d, hr, hd | .opt _, v, u, d, hr, hd => (asD1_sound hr (by simpa only [rd1] using hd)).le (c.lend_le0 s σ nv nr nb lu)
theorem rdDs_one (h : Holds w0 fp c s a) {σ : Sg} {nv nr nb : Nat} {lu : Option (List Nat)} {t : Tp} {v : V} {l l' : List V} {us : List Value} {d : t.T} (hr : RVs c (v :: l) us) (hd : (rd1 s lu t v).map (fun x => (x, l)) = some (d, l')) (ht : t.size = 1) : Rp (c.lend s σ nv nr nb lu) t d (us.take t.size) ∧ RVs c l' (us.drop t.size) := by
  obtain ⟨x, hx, e⟩ := Option.map_eq_some_iff.1 hd
  obtain ⟨rfl, rfl⟩ := Prod.mk.inj e
  simp only [RVs] at hr
  obtain ⟨u, us', rfl, hu, hs⟩ := hr
  rw [ht]
  exact ⟨by simpa using rd1_sound h hu hx, by simpa using hs⟩
theorem rdDs_sound (h : Holds w0 fp c s a) {σ : Sg} {nv nr nb : Nat} {lu : Option (List Nat)} : ∀ {t : Tp} {l l' : List V} {us : List Value} {d : t.T}, RVs c l us → rdDs s lu t l = some (d, l') → Rp (c.lend s σ nv nr nb lu) t d (us.take t.size) ∧ RVs c l' (us.drop t.size)
  | .p x y, l, l', us, d, hr, hd => by
    simp only [rdDs] at hd
    split at hd
    case h_2 => cases hd
    rename_i d1 l1 h1
    split at hd
    case h_2 => cases hd
    rename_i d2 l2 h2
    obtain ⟨rfl, rfl⟩ := Prod.mk.inj (Option.some.inj hd)
    obtain ⟨p1, q1⟩ := rdDs_sound h hr h1
    obtain ⟨p2, q2⟩ := rdDs_sound h q1 h2
    refine ⟨⟨_, _, ?_, p1, p2⟩, ?_⟩
    · simp only [Tp.size]; rw [List.take_add]
    · simpa only [Tp.size, List.drop_drop] using q2
  | .i k, v :: l, l', us, d, hr, hd => rdDs_one h hr (by simpa only [rdDs] using hd) rfl
  | .bo, v :: l, l', us, d, hr, hd => rdDs_one h hr (by simpa only [rdDs] using hd) rfl
  | .tx, v :: l, l', us, d, hr, hd => rdDs_one h hr (by simpa only [rdDs] using hd) rfl
  | .pt, v :: l, l', us, d, hr, hd => rdDs_one h hr (by simpa only [rdDs] using hd) rfl
  | .sl t, v :: l, l', us, d, hr, hd => rdDs_one h hr (by simpa only [rdDs] using hd) rfl
  | .opt t, v :: l, l', us, d, hr, hd => rdDs_one h hr (by simpa only [rdDs] using hd) rfl
  | .i _, [], _, _, _, _, hd | .bo, [], _, _, _, _, hd | .tx, [], _, _, _, _, hd | .sl _, [], _, _, _, _, hd | .pt, [], _, _, _, _, hd | .opt _, [], _, _, _, _, hd => by simp [rdDs] at hd
theorem rdA_sound (h : Holds w0 fp c s a) {σ : Sg} {nv nr nb : Nat} {lu : Option (List Nat)} {t : Tp} {v : V} {u : Value} {d : t.T} (hd : rdA s lu t v = some d) (hr : RV c v u) : RV (c.lend s σ nv nr nb lu) (toV t d) u := by
  unfold rdA at hd
  split at hd
  · rename_i t' e
    split at hd
    case isFalse => cases hd
    rename_i hp
    split at hd
    case isFalse => cases hd
    rename_i ht
    obtain rfl := Option.some.inj hd
    cases t with
    | p x y =>
      simp only [RV] at hr
      obtain ⟨us, rfl, hq⟩ := hr
      simp only [toV, RV]
      exact ⟨us, rfl, (hq.cast ht).le (c.lend_le0 s σ nv nr nb lu)⟩
    | _ => simp [Tp.isP] at hp
  · rename_i l
    split at hd
    case isFalse => cases hd
    rename_i hp
    split at hd
    case h_2 => cases hd
    rename_i x hx
    obtain rfl := Option.some.inj hd
    cases t with
    | p t1 t2 =>
      simp only [RV] at hr
      obtain ⟨us, rfl, hq⟩ := hr
      obtain ⟨h1, h2⟩ := rdDs_sound (nv := nv) h hq hx
      simp only [RVs] at h2
      have e : us.toList.take (Tp.p t1 t2).size = us.toList := List.take_of_length_le (by have := congrArg List.length h2; simp at this; simp; omega)
      rw [e] at h1
      simp only [toV, RV]
      exact ⟨us, rfl, h1⟩
    | _ => simp [Tp.isP] at hp
  · split at hd
    · cases hd
    · cases t with
      | sl t => 
        simp only [toV, RV, I.val]
        exact ⟨trivial, rdTail_sound h hr hd⟩
      | i k => exact C.lend_RV (σ := σ) (nv := nv) (nr := nr) (nb := nb) _ _ (by have := asD1_RV hr (t := .i k) hd; simpa only [toV, RV] using this)
      | bo => exact C.lend_RV (σ := σ) (nv := nv) (nr := nr) (nb := nb) _ _ (by have := asD1_RV hr (t := .bo) hd; simpa only [toV, RV] using this)
      | tx => exact C.lend_RV (σ := σ) (nv := nv) (nr := nr) (nb := nb) _ _ (by have := asD1_RV hr (t := .tx) hd; simpa only [toV, RV] using this)
      | pt => exact C.lend_RV (σ := σ) (nv := nv) (nr := nr) (nb := nb) _ _ (by have := asD1_RV hr (t := .pt) hd; simpa only [toV, RV] using this)
      | p x y => simp [rd1, asD1] at hd
      | opt t => simp [toV, RV]
theorem asD_lend {σ : Sg} {nv nr nb : Nat} {lu : Option (List Nat)} {t : Tp} {v : V} {u : Value} {d : t.T} (hd : asD t v = some d) (hr : RV c v u) : RV (c.lend s σ nv nr nb lu) (toV t d) u := by
  have h := asD_RV hr hd
  have le := c.lend_le0 s σ nv nr nb lu
  cases t with
  | i k => simpa only [toV, RV] using h
  | bo => simpa only [toV, RV] using h
  | tx => simpa only [toV, RV] using h
  | pt => simpa only [toV, RV] using h
  | p x y => simp only [toV, RV] at h ⊢; obtain ⟨us, e, hq⟩ := h; exact ⟨us, e, hq.le le⟩
  | sl t => simp only [toV, RV] at h ⊢; exact ⟨h.1, h.2.le le⟩
  | opt t => simp [toV, RV]
theorem VP.rd_sound {c : C} {s : S} {σ : Sg} {nv nr nb : Nat} {lu : Option (List Nat)} {b : Var} {p : VP} {us : List U} (hd : p.rd σ nv nr nb b = some us) : us.map U.t = p.kn ∧ ∀ l, ∃ b' : Var, p.mk (us ++ l) = (b', l) ∧ b'.live = true ∧ ∀ xs, RCt c b.ct xs → RCt (c.lend s σ nv nr nb lu) b'.ct xs := by
  cases p with
  | pk t =>
    simp only [VP.rd] at hd
    split at hd
    · rename_i q e hct
      split at hd
      · rename_i ht
        obtain rfl := Option.some.inj hd
        refine ⟨rfl, fun l => ⟨⟨true, .pk t (Tp.cast ht e)⟩, by simp [VP.mk, U.as_self], rfl, fun xs hx => ?_⟩⟩
        rw [hct] at hx
        exact Rp.cast ht (Rp.le (c.lend_le0 s σ nv nr nb lu) hx)
      · cases hd
    · rename_i l0 hct
      obtain ⟨d, hd', rfl⟩ := Option.map_eq_some_iff.1 hd
      refine ⟨rfl, fun l => ⟨⟨true, .pk t d⟩, by simp [VP.mk, U.as_self], rfl, fun xs hx => ?_⟩⟩
      rw [hct] at hx
      exact (asDl_sound hx hd').le (c.lend_le0 s σ nv nr nb lu)
  | ls shs =>
    simp only [VP.rd] at hd
    refine ⟨by simpa only [VP.kn] using Sh.rds_kn _ _ _ hd, fun l => ?_⟩
    obtain ⟨vs', e, hs⟩ := Sh.rds_sound (c := c) (c1 := c.lend s σ nv nr nb lu) (fun v u h => C.lend_RV v u h) (fun t v d u hd hr => asD_lend hd hr) shs _ _ hd l
    exact ⟨⟨true, .ls vs'⟩, by simp only [VP.mk, e], rfl, fun xs hx => hs xs hx.cells⟩
theorem VP.rds_sound {c : C} {s : S} {σ : Sg} {nv nr nb : Nat} {lu : Option (List Nat)} : ∀ {k : Nat} {ps : List VP} {us : List U}, VP.rds s.vars σ nv nr nb k ps = some us → us.map U.t = VP.kns ps ∧ ∀ l, ∃ bs : List Var, VP.mks ps (us ++ l) = (bs, l) ∧ bs.length = ps.length ∧
    ∀ (j : Nat) (b' : Var), bs[j]? = some b' → b'.live = true ∧ ∃ b : Var, s.vars[σ.sv (k + j)]? = some b ∧ b.live = true ∧ ∀ xs, RCt c b.ct xs → RCt (c.lend s σ nv nr nb lu) b'.ct xs
  | k, [], us, h => by
    obtain rfl := Option.some.inj h
    exact ⟨rfl, fun l => ⟨[], rfl, rfl, fun j b' hj => by simp at hj⟩⟩
  | k, p :: ps, us, h => by
    simp only [VP.rds] at h
    split at h
    case h_2 => cases h
    rename_i b hb
    split at h
    case isFalse => cases h
    rename_i hl
    split at h
    case h_2 => cases h
    rename_i us1 us2 h1 h2
    obtain rfl := Option.some.inj h
    obtain ⟨k1, m1⟩ := VP.rd_sound (c := c) (s := s) h1
    obtain ⟨k2, m2⟩ := VP.rds_sound (c := c) (s := s) h2
    refine ⟨by simp [VP.kns, k1, k2], fun l => ?_⟩
    obtain ⟨b1, e1, hl1, t1⟩ := m1 (us2 ++ l)
    obtain ⟨bs, e2, hn, t2⟩ := m2 l
    refine ⟨b1 :: bs, by simp [VP.mks, List.append_assoc, e1, e2], by simp [hn], fun j b' hj => ?_⟩
    cases j with
    | zero => simp at hj; subst hj; exact ⟨hl1, b, by simpa using hb, hl, t1⟩
    | succ j => rw [show k + (j + 1) = k + 1 + j from by omega]; exact t2 j b' (by simpa using hj)
theorem RP.rds_sound {s : S} {σ : Sg} : ∀ {k : Nat} {ps : List RP} {us : List U}, RP.rds s.rows σ k ps = some us → us.map U.t = RP.kns ps ∧ (RP.mks ps us).length = ps.length ∧
    ∀ (j : Nat) (b' : Row), (RP.mks ps us)[j]? = some b' → ∃ p, ps[j]? = some p ∧ b'.live = true ∧ b'.fix = p.fix ∧ b'.e = p.e ∧ b'.t = p.t ∧ b'.n.val = b'.l.length ∧
      ((∃ (r : Nat) (b : Row), σ.sr (k + j) = some r ∧ s.rows[r]? = some b ∧ b.live = true ∧ b.e = p.e ∧ (p.fix = true ∨ b.fix = false) ∧ ∃ h : b.t.eq b'.t = true, Tp.castL h b.l = b'.l) ∨ (σ.sr (k + j) = none ∧ p.fix = false ∧ b'.l = []))
  | k, [], us, h => by
    obtain rfl := Option.some.inj h
    exact ⟨rfl, rfl, fun j b' hj => by simp [RP.mks] at hj⟩
  | k, p :: ps, us, h => by
    simp only [RP.rds] at h
    split at h
    case h_2 => cases h
    rename_i u vs h1 h2
    obtain rfl := Option.some.inj h
    obtain ⟨k2, n2, m2⟩ := RP.rds_sound h2
    have key : ∃ l : List p.t.T, u = ⟨.sl p.t, l⟩ ∧ ((∃ (r : Nat) (b : Row), σ.sr k = some r ∧ s.rows[r]? = some b ∧ b.live = true ∧ b.e = p.e ∧ (p.fix = true ∨ b.fix = false) ∧ ∃ h : b.t.eq p.t = true, Tp.castL h b.l = l) ∨ (σ.sr k = none ∧ p.fix = false ∧ l = [])) := by
      split at h1
      · rename_i r hr
        split at h1
        case h_2 => cases h1
        rename_i b hb
        split at h1
        case isFalse => cases h1
        rename_i hc
        simp only [Bool.and_eq_true, beq_iff_eq, Bool.or_eq_true, Bool.not_eq_true'] at hc
        split at h1
        case isFalse => cases h1
        rename_i ht
        obtain rfl := Option.some.inj h1
        exact ⟨_, rfl, .inl ⟨r, b, hr, hb, hc.1.1, hc.1.2, hc.2, ht, rfl⟩⟩
      · rename_i hr
        split at h1
        · cases h1
        · rename_i hf
          obtain rfl := Option.some.inj h1
          exact ⟨[], rfl, .inr ⟨hr, by simpa using hf, rfl⟩⟩
    obtain ⟨l, rfl, hl⟩ := key
    refine ⟨by simp [RP.kns, k2], by simp [RP.mks, n2], fun j b' hj => ?_⟩
    cases j with
    | zero =>
      simp [RP.mks] at hj
      subst hj
      rw [U.as_self]
      exact ⟨p, rfl, rfl, rfl, rfl, rfl, rfl, hl⟩
    | succ j =>
      rw [show k + (j + 1) = k + 1 + j from by omega]
      simpa using m2 j b' (by simpa [RP.mks] using hj)

theorem RowAt.fixed {w : World} {fix : Bool} {e e' : TypeId} {sz : Nat} {v : Value} {n : Nat} {us : List Value} (h : RowAt w fix e sz v n us) : RowAt w true e' sz v n us := by
  refine ⟨h.len, ?_⟩
  rcases h.at_ with h1 | ⟨_, h1, h2⟩ | ⟨g, o, cap, e, h1, h2, h3, _⟩
  · exact .inl h1
  · exact .inr (.inl ⟨rfl, h1, h2⟩)
  · exact .inr (.inr ⟨g, o, cap, e, h1, h2, h3, fun h => by cases h⟩)
theorem rowF_mono {v : Value} {fix : Bool} {sz k o : Nat} (h : rowF v true sz k o) : rowF v fix sz k o := by
  unfold rowF at h ⊢
  split at h
  · simp only [Bool.true_eq_false, false_or] at h
    exact ⟨h.1, .inr h.2⟩
  · exact h.elim
theorem OP.rds_sound {s : S} {σ : Sg} : ∀ {k : Nat} {ps : List (OK × Tp)} {us : List U}, OP.rds s.objs σ k ps = some us → us.map U.t = OP.kns ps ∧ (OP.mks ps us).length = ps.length ∧
    ∀ (j : Nat) (b' : Ob), (OP.mks ps us)[j]? = some b' → b'.live = true ∧ s.objs[σ.so (k + j)]? = some b'
  | k, [], us, h => by
    obtain rfl := Option.some.inj h
    exact ⟨rfl, rfl, fun j b' hj => by simp [OP.mks] at hj⟩
  | k, p :: ps, us, h => by
    simp only [OP.rds] at h
    split at h
    case h_2 => cases h
    rename_i u vs h1 h2
    obtain rfl := Option.some.inj h
    obtain ⟨k2, n2, m2⟩ := OP.rds_sound h2
    split at h1
    case h_2 => cases h1
    rename_i b hb
    split at h1
    case isFalse => cases h1
    rename_i hc
    simp only [Bool.and_eq_true, decide_eq_true_eq] at hc
    split at h1
    case isFalse => cases h1
    rename_i ht
    obtain rfl := Option.some.inj h1
    refine ⟨by simp [OP.kns, k2], by simp [OP.mks, n2], fun j b' hj => ?_⟩
    cases j with
    | zero =>
      simp [OP.mks] at hj
      subst hj
      refine ⟨rfl, ?_⟩
      rw [Nat.add_zero, hb]
      obtain ⟨lv, kk, tt, ee⟩ := b
      obtain ⟨pk, pt⟩ := p
      simp only at hc ht ⊢
      obtain ⟨rfl, rfl⟩ := hc
      obtain rfl := Tp.of_eq ht
      rw [U.as_self, Tp.cast_rfl]
    | succ j =>
      rw [show k + (j + 1) = k + 1 + j from by omega]
      simpa using m2 j b' (by simpa [OP.mks] using hj)
theorem RP.mks_append : ∀ {ps : List RP} {us l : List U}, us.length = ps.length → RP.mks ps (us ++ l) = RP.mks ps us
  | [], us, l, h => by cases us <;> cases l <;> rfl
  | p :: ps, [], l, h => by cases h
  | p :: ps, u :: us, l, h => by simp only [List.cons_append, RP.mks]; rw [RP.mks_append (by simpa using h)]
theorem RP.kns_length : ∀ ps : List RP, (RP.kns ps).length = ps.length
  | [] => rfl
  | p :: ps => by simp [RP.kns, RP.kns_length ps]
/-- The call's beginning. -/
theorem Con.enter_sound {k : Con} {args : List V} {us : List U} (h : Holds w0 fp c s a) (he : k.enter s args = some us) (ws : List Value) (hws : RVs c args ws) :
    us.map U.t = k.kn ∧ (k.sg s args).ok k.vars.length k.rows.length k.objs.length = true ∧ k.may s (k.sg s args) = true ∧ (k.st us).vars.length = k.vars.length ∧ (k.st us).rows.length = k.rows.length ∧ (k.st us).objs.length = k.objs.length ∧
      Holds c.w (baseOf fp.K k.ro (k.lendC c s (k.sg s args)) (k.st us)) (k.lendC c s (k.sg s args)) (k.st us) ⟨#[], []⟩ ∧ RVs (k.lendC c s (k.sg s args)) (k.argV us) ws ∧
      (∀ x, x < k.vars.length → (k.sg s args).sv x < s.vars.length) ∧
      (∀ q p o, foot (k.lendC c s (k.sg s args)) (k.st us) q p o → ∃ q0, (k.sg s args).img k.vars.length k.rows.length k.objs.length q q0 ∧ foot c s q0 p o) ∧
      (∀ (j : Nat) (b' : Row), (k.st us).rows[j]? = some b' → ∃ p, k.rows[j]? = some p ∧ b'.live = true ∧ b'.fix = p.fix ∧ ((∃ (r : Nat) (b : Row), (k.sg s args).sr j = some r ∧ s.rows[r]? = some b ∧ b.live = true ∧ b.e = p.e ∧ (p.fix = true ∨ b.fix = false) ∧ b.t.eq p.t = true) ∨ ((k.sg s args).sr j = none ∧ p.fix = false))) ∧
      (∀ (j : Nat) (b' : Ob), (k.st us).objs[j]? = some b' → b'.live = true ∧ s.objs[(k.sg s args).so j]? = some b') := by
  unfold Con.enter at he
  simp only at he
  generalize hσ : k.sg s args = σ at he ⊢
  split at he
  case isFalse => cases he
  rename_i hok
  simp only [Bool.and_eq_true] at hok
  obtain ⟨hok, hmay⟩ := hok
  split at he
  case h_2 => cases he
  rename_i us1 us2 us3 us4 h1 h2 h3 h4
  obtain rfl := Option.some.inj he
  have k1 := Sh.rds_kn _ _ _ h1
  obtain ⟨vs', e1, q1⟩ := Sh.rds_sound (c := c) (c1 := k.lendC c s σ) (fun v u h => C.lend_RV v u h) (fun t v d u hd hr => rdA_sound h hd hr) k.args args us1 h1 (us2 ++ (us3 ++ us4))
  obtain ⟨k2, m2⟩ := VP.rds_sound (c := c) (s := s) (lu := k.used σ k.rows.length) h2
  obtain ⟨bs, e2, n2, t2⟩ := m2 (us3 ++ us4)
  obtain ⟨k3, n3, t3⟩ := RP.rds_sound h3
  obtain ⟨k4, n4, t4⟩ := OP.rds_sound h4
  have l3 : us3.length = k.rows.length := by
    have := congrArg List.length k3
    simpa [RP.kns_length] using this
  have hst : k.st (us1 ++ (us2 ++ (us3 ++ us4))) = ⟨[], bs, RP.mks k.rows us3, OP.mks k.objs us4, [], k.lk⟩ := by
    simp only [Con.st, e1, e2, RP.mks_append l3]
    rw [List.drop_append_of_le_length (by omega), List.drop_of_length_le (by omega), List.nil_append]
  have harg : k.argV (us1 ++ (us2 ++ (us3 ++ us4))) = vs' := by simp [Con.argV, e1]
  have le0 : c.Le0 (k.lendC c s σ) := c.lend_le0 s σ k.vars.length k.rows.length k.objs.length (k.used σ k.rows.length)
  have rowEq : ∀ (x r : Nat), σ.sr x = some r → (k.lendC c s σ).r x = c.r r := fun x r e => by simp [Con.lendC, C.lend, C.ren, e]
  have hff : ∀ q p o, foot (k.lendC c s σ) ⟨[], bs, RP.mks k.rows us3, OP.mks k.objs us4, [], k.lk⟩ q p o → ∃ q0, σ.img k.vars.length k.rows.length k.objs.length q q0 ∧ foot c s q0 p o := by
    intro q p o hq
    cases q with
    | v x =>
      obtain ⟨b', hb', hl', hk⟩ := hq
      obtain ⟨_, b, hb, hl, htr⟩ := t2 x b' hb'
      rw [Nat.zero_add] at hb
      obtain ⟨xs, _, hu⟩ := (h.vars _ b hb hl).at_
      have hsz : b.ct.size = b'.ct.size := by rw [← hu.length, ← (htr xs hu).length]
      exact ⟨_, .v x (by rw [← n2]; exact (List.getElem?_eq_some_iff.1 hb').1), b, hb, hl, by rw [hsz]; exact hk⟩
    | r x =>
      obtain ⟨b', hb', hl', hk⟩ := hq
      obtain ⟨p', hp', _, hf', he', ht', _, hcase⟩ := t3 x b' hb'
      rw [Nat.zero_add] at hcase
      have hlt : x < k.rows.length := (List.getElem?_eq_some_iff.1 hp').1
      rcases hcase with ⟨r, b, hs, hb, hl, _, hfx, ht, _⟩ | ⟨hs, _, _⟩
      · have htt := Tp.of_eq ht
        refine ⟨_, .r x r hlt hs, b, hb, hl, ?_⟩
        rw [rowEq x r hs, ← htt, hf'] at hk
        rcases hfx with hfx | hfx
        · rw [hfx] at hk; exact rowF_mono hk
        · rw [hfx]
          cases hpf : p'.fix with
          | true => rw [hpf] at hk; exact rowF_mono hk
          | false => rw [hpf] at hk; exact hk
      · have : (k.lendC c s σ).r x = .slice none 0 0 := by simp [Con.lendC, C.lend, C.ren, hs]
        rw [this] at hk; exact hk.elim
    | o x =>
      obtain ⟨b', hb', hl', hk⟩ := hq
      obtain ⟨_, hb⟩ := t4 x b' hb'
      rw [Nat.zero_add] at hb
      exact ⟨_, .o x (by rw [← n4]; exact (List.getElem?_eq_some_iff.1 hb').1), b', hb, hl', hk⟩
  have lockAll : k.ro = true → ∀ q p o, foot (k.lendC c s σ) ⟨[], bs, RP.mks k.rows us3, OP.mks k.objs us4, [], k.lk⟩ q p o → k.lk.has q = true := fun hro q p o hq => by
    have hlk : k.lk = ⟨k.vars.length, k.rows.length, 0, k.rows.length⟩ := by simp [Con.lk, hro]
    simp only [Con.may, hro, if_true, Bool.and_eq_true, List.isEmpty_iff] at hmay
    rw [hlk]
    cases q with
    | v x => obtain ⟨b', hb', _⟩ := hq; simp only [LK.has, decide_eq_true_eq]; rw [← n2]; exact (List.getElem?_eq_some_iff.1 hb').1
    | r x => obtain ⟨b', hb', _⟩ := hq; simp only [LK.has, decide_eq_true_eq]; rw [← n3]; exact (List.getElem?_eq_some_iff.1 hb').1
    | o x => obtain ⟨b', hb', _⟩ := hq; have h5 : x < (OP.mks k.objs us4).length := (List.getElem?_eq_some_iff.1 hb').1; rw [n4, hmay.2] at h5; cases h5
  refine ⟨by simp [Con.kn, k1, k2, k3, k4], hok, hmay, by rw [hst]; exact n2, by rw [hst]; exact n3, by rw [hst]; exact n4, ?_, by rw [harg]; exact q1 _ hws, ?_, by rw [hst]; exact hff, ?_, by rw [hst]; intro j b' hb'; simpa using t4 j b' hb'⟩
  · rw [hst]
    refine { gl := fun p hp => ⟨.inl (h.gl p hp).1, (h.gl p hp).2⟩, keeps := Keeps.refl _ _, eF := fun _ _ h => h, eF2 := fun _ _ h => .inl h, lk := rfl, fpk := ?_, tmps := RVs.nil, defers := rfl, nv := n2.symm, nr := n3.symm, nb := n4.symm, vars := ?_, rows := ?_, objs := ?_, disj := ?_, mine := ?_, free := ?_, flt := ?_, ag := ?_, ar := ?_, ao := ?_ }
    · have hlk : (baseOf fp.K k.ro (k.lendC c s σ) ⟨[], bs, RP.mks k.rows us3, OP.mks k.objs us4, [], k.lk⟩).lk = k.lk := rfl
      have fpv : ∀ x p o, ((List.range bs.length).map (k.lendC c s σ).g).length ≤ x → ¬ foot (k.lendC c s σ) ⟨[], bs, RP.mks k.rows us3, OP.mks k.objs us4, [], k.lk⟩ (.v x) p o := fun x p o hx hf => by
        obtain ⟨b, hb, _⟩ := hf
        have := (List.getElem?_eq_some_iff.1 hb).1
        simp only [List.length_map, List.length_range] at hx this
        omega
      have fpr : ∀ x p o, k.rows.length ≤ x → ¬ foot (k.lendC c s σ) ⟨[], bs, RP.mks k.rows us3, OP.mks k.objs us4, [], k.lk⟩ (.r x) p o := fun x p o hx hf => by
        obtain ⟨b, hb, _⟩ := hf
        have := (List.getElem?_eq_some_iff.1 hb).1
        rw [← n3] at hx
        simp only at this
        omega
      have frl : ∀ r v, (baseOf fp.K k.ro (k.lendC c s σ) ⟨[], bs, RP.mks k.rows us3, OP.mks k.objs us4, [], k.lk⟩).r[r]? = some (some v) → r < k.rows.length := fun r v hr => by
        simp only [baseOf, List.getElem?_map, Option.map_eq_some_iff] at hr
        obtain ⟨y, hy, _⟩ := hr
        have := (List.getElem?_eq_some_iff.1 hy).1
        simp at this
        rw [← n3]; exact this
      have fpo : ∀ x p o, ((List.range (OP.mks k.objs us4).length).map fun x => match (OP.mks k.objs us4)[x]? with | some b => if b.live && b.k.still then some ((k.lendC c s σ).ob x) else none | none => none).length ≤ x → ¬ foot (k.lendC c s σ) ⟨[], bs, RP.mks k.rows us3, OP.mks k.objs us4, [], k.lk⟩ (.o x) p o := fun x p o hx hf => by
        obtain ⟨b, hb, _⟩ := hf
        have := (List.getElem?_eq_some_iff.1 hb).1
        simp only [List.length_map, List.length_range] at hx this
        omega
      cases hro : k.ro with
      | false =>
        have : k.lk = ⟨0, 0, 0, k.rows.length⟩ := by simp [Con.lk, hro]
        refine ⟨?_, ?_, ?_, by show ∀ x p o, k.lk.gr ≤ x → _; rw [this]; exact fpr, by show ∀ r v, _ → r < k.lk.gr; rw [this]; exact frl⟩
        · show k.lk.v ≤ _; rw [this]; exact Nat.zero_le _
        · intro r hr; have hr : r < k.lk.r := hr; rw [this] at hr; cases hr
        · show k.lk.o = 0; rw [this]
      | true =>
        have hlk : k.lk = ⟨k.vars.length, k.rows.length, 0, k.rows.length⟩ := by simp [Con.lk, hro]
        simp only [Con.may, hro, if_true, Bool.and_eq_true] at hmay
        refine ⟨?_, ?_, ?_, by show ∀ x p o, k.lk.gr ≤ x → _; rw [hlk]; exact fpr, by show ∀ r v, _ → r < k.lk.gr; rw [hlk]; exact frl⟩
        · show k.lk.v ≤ ((List.range bs.length).map _).length; rw [hlk]; simp [n2]
        · intro r hr
          have hr : r < k.lk.r := hr
          rw [hlk] at hr
          simp only at hr
          have hb := List.getElem?_eq_getElem (l := RP.mks k.rows us3) (i := r) (by rw [n3]; exact hr)
          obtain ⟨p', hp', hl', hf', _⟩ := t3 r _ hb
          have hpf : p'.fix = true := List.all_eq_true.1 hmay.1 p' (List.mem_of_getElem? hp')
          refine ⟨(k.lendC c s σ).r r, ?_⟩
          show ((List.range (RP.mks k.rows us3).length).map _)[r]? = _
          rw [List.getElem?_map, List.getElem?_range (by rw [n3]; exact hr)]
          simp only [Option.map_some, hb, hl', hf', hpf, Bool.and_self, if_true]
        · show k.lk.o = 0; rw [hlk]
    · intro x b' hb' _
      obtain ⟨_, b, hb, hl, htr⟩ := t2 x b' hb'
      rw [Nat.zero_add] at hb
      have hvar := h.vars _ b hb hl
      obtain ⟨xs, hc, hu⟩ := hvar.at_
      have hsz : b.ct.size = b'.ct.size := by rw [← hu.length, ← (htr xs hu).length]
      exact ⟨by rw [← hsz]; exact hvar.pos, xs, hc, htr xs hu⟩
    · intro x b' hb' _
      obtain ⟨p', hp', _, hf', he', ht', hn, hcase⟩ := t3 x b' hb'
      rw [Nat.zero_add] at hcase
      refine ⟨hn, ?_⟩
      rcases hcase with ⟨r, b, hs, hb, hl, hbe, hfx, ht, hll⟩ | ⟨hs, _, hll⟩
      · obtain ⟨xs, hat, hR⟩ := (h.rows r b hb hl).at_
        have hlen : b.l.length = b'.l.length := by rw [← hll, Tp.castL_length]
        refine ⟨xs, ?_, by rw [← hll]; exact (hR.cast ht).le le0⟩
        rw [rowEq x r hs, hf', he', ← hlen, ← hbe, show b'.t.size = b.t.size from by rw [Tp.of_eq ht]]
        rcases hfx with hfx | hfx
        · rw [hfx]; exact hat.fixed
        · cases hpf : p'.fix with
          | true => exact hat.fixed
          | false => rw [← hfx]; exact hat
      · exact ⟨[], ⟨by rw [hll]; simp, .inl ⟨by simp [Con.lendC, C.lend, C.ren, hs], by rw [hll]; rfl⟩⟩, by rw [hll]; rfl⟩
    · intro x b' hb' hl'
      obtain ⟨_, hb⟩ := t4 x b' hb'
      rw [Nat.zero_add] at hb
      have ho := h.objs _ b' hb hl'
      exact ho.keep le0.F (fun _ _ _ => rfl) (Nat.le_refl _)
    · intro q q' p o f1 f2
      obtain ⟨q0, i0, g0⟩ := hff q p o f1
      obtain ⟨q1, i1, g1⟩ := hff q' p o f2
      obtain rfl := h.disj _ _ p o g0 g1
      exact Sg.img_inj hok i0 i1
    · intro q p o f1
      refine ⟨.inr (Base.own_self f1), fun hF => ?_⟩
      · obtain ⟨q0, i0, g0⟩ := hff q p o f1
        rcases hF with hF | ⟨l, hl, r', hr', hF⟩
        · exact (h.mine _ p o g0).2 hF
        · obtain rfl := h.disj _ _ p o g0 hF
          unfold Con.used at hl
          split at hl
          · obtain rfl := Option.some.inj hl
            cases i0 with
            | r x _ hx hs =>
              have : ((List.range k.rows.length).filterMap σ.sr).contains r' = true := by
                simp only [List.contains_iff_mem, List.mem_filterMap]
                exact ⟨x, by simpa using hx, hs⟩
              rw [this] at hr'; cases hr'
          · cases hl
    · intro q p o f1 hq
      refine .inr ⟨?_, q, f1⟩
      cases hro : k.ro with
      | false => rfl
      | true => have := lockAll hro q p o f1; rw [show k.lk.has q = false from hq] at this; cases this
    · intro p o hF
      rcases hF with hF | ⟨l, _, r, _, hF⟩
      · exact h.flt p o hF
      · exact foot_lt h hF
    · intro x ad hx
      simp only [baseOf, List.getElem?_map, Option.map_eq_some_iff] at hx
      obtain ⟨y, hy, rfl⟩ := hx
      obtain ⟨hlt, he⟩ := List.getElem?_eq_some_iff.1 hy
      simp at he hlt
      subst he
      exact ⟨by show _ < k.vars.length; rw [← n2]; exact hlt, rfl⟩
    · intro r v hv
      simp only [baseOf, List.getElem?_map, Option.map_eq_some_iff] at hv
      obtain ⟨y, hy, e⟩ := hv
      obtain ⟨hlt, he⟩ := List.getElem?_eq_some_iff.1 hy
      simp at he hlt
      subst he
      split at e
      · rename_i b hb
        split at e
        · rename_i hc
          simp only [Bool.and_eq_true] at hc
          obtain rfl := Option.some.inj e
          exact ⟨rfl, b, hb, hc.1, hc.2⟩
        · cases e
      · cases e
    · intro x v hv
      simp only [baseOf, List.getElem?_map, Option.map_eq_some_iff] at hv
      obtain ⟨y, hy, e⟩ := hv
      obtain ⟨hlt, he⟩ := List.getElem?_eq_some_iff.1 hy
      simp at he hlt
      subst he
      split at e
      · rename_i b hb
        split at e
        · rename_i hc
          simp only [Bool.and_eq_true] at hc
          obtain rfl := Option.some.inj e
          exact ⟨rfl, b, hb, hc.1, hc.2⟩
        · cases e
      · cases e
  · intro x hx
    obtain ⟨_, b, hb, _⟩ := t2 x _ (List.getElem?_eq_getElem (by rw [n2]; exact hx))
    rw [Nat.zero_add] at hb
    exact (List.getElem?_eq_some_iff.1 hb).1
  · rw [hst]
    intro j b' hb'
    obtain ⟨p', hp', hl', hf', _, ht', _, hcase⟩ := t3 j b' hb'
    rw [Nat.zero_add] at hcase
    refine ⟨p', hp', hl', hf', ?_⟩
    rcases hcase with ⟨r, b, hs, hb, hl, hbe, hfx, ht, _⟩ | ⟨hs, hf, _⟩
    · exact .inl ⟨r, b, hs, hb, hl, hbe, hfx, by rw [← ht']; exact ht⟩
    · exact .inr ⟨hs, hf⟩
end
end Go.Fx
