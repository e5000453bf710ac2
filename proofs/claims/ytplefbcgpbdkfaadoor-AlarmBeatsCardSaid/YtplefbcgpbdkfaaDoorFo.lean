/- Calls, by their contracts: what is known behind them. -/
import Derived.Test.YtplefbcgpbdkfaaDoorFn
set_option linter.all false
namespace Go.Fx
open Go Go.RowKit

mutual
def renV (mv mr mo : Nat → Nat) : V → V
  | .lp k o => .lp (mv k) o
  | .own k => .own (mr k)
  | .vw k sz lo n => .vw (mr k) sz lo n
  | .bk k sz lo n => .bk (mr k) sz lo n
  | .op k sz i j => .op (mr k) sz i j
  | .obj k => .obj (mo k)
  | .agg l => .agg (renVs mv mr mo l)
  | .tup l => .tup (renVs mv mr mo l)
  | .fn f l => .fn f (renVs mv mr mo l)
  | .i k n => .i k n
  | .b x => .b x
  | .nx b p r => .nx b p r
  | .pt e => .pt e
  | .v v => .v v
  | .x t e => .x t e
  | .ro t n l => .ro t n l
  | .rp t l i j => .rp t l i j
  | .junk => .junk
def renVs (mv mr mo : Nat → Nat) : List V → List V
  | [] => []
  | v :: vs => renV mv mr mo v :: renVs mv mr mo vs
end
mutual
/-- It leads to nothing but its own roots ('fl': and to no data). -/
def okV (nv nr nb : Nat) (fl : Bool) : V → Bool
  | .lp k _ => decide (k < nv)
  | .own k => decide (k < nr)
  | .vw k _ _ _ => decide (k < nr)
  | .bk k _ _ _ => decide (k < nr)
  | .op k _ _ _ => decide (k < nr)
  | .obj k => decide (k < nb)
  | .agg l => okVs nv nr nb fl l
  | .tup l => okVs nv nr nb fl l
  | .fn _ l => okVs nv nr nb fl l
  | .i _ _ => true
  | .b _ => true
  | .nx _ _ _ => true
  | .pt _ => true
  | .v _ => true
  | .x t _ => !fl || t.flat
  | .ro _ _ _ => !fl
  | .rp _ _ _ _ => !fl
  | .junk => true
def okVs (nv nr nb : Nat) (fl : Bool) : List V → Bool
  | [] => true
  | v :: vs => okV nv nr nb fl v && okVs nv nr nb fl vs
end
mutual
/-- What leads to some rows, or objects, is known no more. -/
def cutV (p po : Nat → Bool) : V → V
  | .own r => if p r then .junk else .own r
  | .vw r sz lo n => if p r then .junk else .vw r sz lo n
  | .bk r sz lo n => if p r then .junk else .bk r sz lo n
  | .op r sz i j => if p r then .junk else .op r sz i j
  | .obj x => if po x then .junk else .obj x
  | .agg l => .agg (cutVs p po l)
  | .tup l => .tup (cutVs p po l)
  | .fn f l => .fn f (cutVs p po l)
  | .i k n => .i k n
  | .b x => .b x
  | .nx b p r => .nx b p r
  | .pt e => .pt e
  | .v v => .v v
  | .x t e => .x t e
  | .lp x o => .lp x o
  | .ro t n l => .ro t n l
  | .rp t l i j => .rp t l i j
  | .junk => .junk
def cutVs (p po : Nat → Bool) : List V → List V
  | [] => []
  | v :: vs => cutV p po v :: cutVs p po vs
end
def Ctn.ren (mv mr mo : Nat → Nat) : Ctn → Ctn
  | .pk t e => .pk t e
  | .ls l => .ls (renVs mv mr mo l)
def Ctn.okB (nv nr nb : Nat) (fl : Bool) : Ctn → Bool
  | .pk t _ => !fl || t.flat
  | .ls l => okVs nv nr nb fl l
def Ctn.cut (p po : Nat → Bool) : Ctn → Ctn
  | .pk t e => .pk t e
  | .ls l => .ls (cutVs p po l)
def mapI {α β : Type} (f : Nat → α → β) : Nat → List α → List β
  | _, [] => []
  | n, x :: l => f n x :: mapI f (n + 1) l
theorem mapI_get {α β : Type} {f : Nat → α → β} : ∀ {l : List α} {n i : Nat}, (mapI f n l)[i]? = (l[i]?).map (f (n + i))
  | [], n, i => by simp [mapI]
  | x :: l, n, 0 => by simp [mapI]
  | x :: l, n, i + 1 => by
    simp only [mapI, List.getElem?_cons_succ, mapI_get (l := l)]
    rw [show n + 1 + i = n + (i + 1) from by omega]
theorem mapI_length {α β : Type} {f : Nat → α → β} : ∀ {l : List α} {n : Nat}, (mapI f n l).length = l.length
  | [], n => rfl
  | x :: l, n => by simp [mapI, mapI_length (l := l)]
def frs (σ : Sg) (nrk n : Nat) : List Nat := (List.range n).filter fun k => decide (nrk ≤ k) || (σ.sr k).isNone
def mvF (σ : Sg) (nvk nv0 k : Nat) : Nat := if k < nvk then σ.sv k else nv0 + (k - nvk)
def moF (σ : Sg) (nbk nb0 k : Nat) : Nat := if k < nbk then σ.so k else nb0 + (k - nbk)
def mrF (σ : Sg) (nrk nr0 : Nat) (F : List Nat) (k : Nat) : Nat := match (if k < nrk then σ.sr k else none) with | some r => r | none => nr0 + F.idxOf k
def hitV (σ : Sg) (nvk x : Nat) : Option Nat := (List.range nvk).find? fun k => σ.sv k == x
def hitO (σ : Sg) (nbk x : Nat) : Option Nat := (List.range nbk).find? fun k => σ.so k == x
def hitR (σ : Sg) (nrk r : Nat) : Option Nat := (List.range nrk).find? fun k => σ.sr k == some r
/-- Is it a row that the call may have laid elsewhere? -/
def movR (σ : Sg) (ps : List RP) (r : Nat) : Bool := (List.range ps.length).any fun k => σ.sr k == some r && !((ps[k]?).any RP.fix)
def movO (σ : Sg) (ps : List (OK × Tp)) (x : Nat) : Bool := (List.range ps.length).any fun k => σ.so k == x && !((ps[k]?).any fun a => a.1.still)
def Con.hV (k : Con) (σ : Sg) (x : Nat) : Option Nat := if k.ro then none else hitV σ k.vars.length x
def Con.hR (k : Con) (σ : Sg) (x : Nat) : Option Nat := if k.ro then none else hitR σ k.rows.length x
def Con.hO (k : Con) (σ : Sg) (x : Nat) : Option Nat := if k.ro then none else hitO σ k.objs.length x
/-- Does the call touch it? -/
def Con.hit (k : Con) (σ : Sg) : Rt → Bool
  | .v x => (k.hV σ x).isSome
  | .r x => (k.hR σ x).isSome
  | .o x => (k.hO σ x).isSome
def Con.leave (k : Con) (vs : List Var) (rs : List Row) (qs : List Ob) (ret : V) : Bool :=
  decide (k.vars.length ≤ vs.length) && decide (k.rows.length ≤ rs.length) && vs.all (fun b => b.live && b.ct.okB vs.length rs.length qs.length k.lend) && rs.all (fun b => b.live && (!k.lend || b.t.flat)) && okV vs.length rs.length qs.length k.lend ret &&
    ((List.range k.rows.length).all fun j => match rs[j]?, k.rows[j]? with | some b, some p => b.fix == p.fix && b.e == p.e && b.t.eq p.t | _, _ => false) && ((rs.drop k.rows.length).all fun b => !b.fix) &&
    (decide (k.objs.length ≤ qs.length) && qs.all (fun b => b.live) && (!k.lend || qs.isEmpty))
def Con.after (k : Con) (s : S) (σ : Sg) (vs : List Var) (rs : List Row) (qs : List Ob) : S :=
  let F := frs σ k.rows.length rs.length
  let mv := mvF σ k.vars.length s.vars.length
  let mr := mrF σ k.rows.length s.rows.length F
  let mo := moF σ k.objs.length s.objs.length
  let p := movR σ k.rows
  let po := movO σ k.objs
  { s with
    tmps := cutVs p po s.tmps
    vars := mapI (fun x b => match k.hV σ x with
      | some j => match vs[j]? with
        | some b' => ⟨true, b'.ct.ren mv mr mo⟩
        | none => b
      | none => ⟨b.live, b.ct.cut p po⟩) 0 s.vars ++ (vs.drop k.vars.length).map fun b => ⟨true, b.ct.ren mv mr mo⟩
    rows := mapI (fun r b => match k.hR σ r with
      | some j => match rs[j]? with
        | some b' => ⟨b.live, b.fix, b.e, b'.t, b'.n, b'.l⟩
        | none => b
      | none => b) 0 s.rows ++ F.filterMap fun j => rs[j]?
    objs := mapI (fun x b => match k.hO σ x with
      | some j => match qs[j]? with
        | some b' => b'
        | none => b
      | none => b) 0 s.objs ++ qs.drop k.objs.length }

mutual
theorem RV.cut {c c' : C} (h0 : c.Le0 c') {p po : Nat → Bool} (hg : ∀ x, x < c.nv → c'.g x = c.g x) (hnv : c.nv ≤ c'.nv) (hr : ∀ x, x < c.nr → p x = false → c'.r x = c.r x) (hn : c.nr ≤ c'.nr) (ho : ∀ x, x < c.nb → po x = false → c'.ob x = c.ob x) (hb : c.nb ≤ c'.nb) : ∀ (v : V) (u : Value), RV c v u → RV c' (cutV p po v) u
  | .i k n, u, h | .b x, u, h | .v v, u, h | .nx b p r, u, h | .pt e, u, h => by simpa only [cutV, RV] using h
  | .x t e, u, h => by simp only [cutV, RV] at h ⊢; obtain ⟨us, e, hq⟩ := h; exact ⟨us, e, hq.le h0⟩
  | .lp x o, u, h => by simp only [cutV, RV] at h ⊢; exact ⟨Nat.lt_of_lt_of_le h.1 hnv, by rw [hg x h.1]; exact h.2⟩
  | .ro t n l, u, h => by simp only [cutV, RV] at h ⊢; exact ⟨h.1, h.2.le h0⟩
  | .rp t l i j, u, h => by
    simp only [cutV, RV] at h ⊢
    obtain ⟨p0, p1, g, o, vs, e, hs, hl⟩ := h
    exact ⟨p0, p1, g, o, vs, e, hs.le h0, hl.le h0⟩
  | .own r, u, h | .vw r _ _ _, u, h | .op r _ _ _, u, h | .bk r _ _ _, u, h => by
    simp only [cutV]
    cases hp : p r with
    | true => simp [RV]
    | false =>
      simp only [Bool.false_eq_true, if_false, RV] at h ⊢
      rw [hr r h.1 hp]
      exact ⟨Nat.lt_of_lt_of_le h.1 hn, h.2⟩
  | .obj x, u, h => by
    simp only [cutV]
    cases hp : po x with
    | true => simp [RV]
    | false =>
      simp only [Bool.false_eq_true, if_false, RV] at h ⊢
      rw [ho x h.1 hp]
      exact ⟨Nat.lt_of_lt_of_le h.1 hb, h.2⟩
  | .fn _ l, u, h | .agg l, u, h | .tup l, u, h => by
    simp only [cutV, RV] at h ⊢
    obtain ⟨us, e, hq⟩ := h
    exact ⟨us, e, RVs.cut h0 hg hnv hr hn ho hb l _ hq⟩
  | .junk, u, h => by simp [cutV, RV]
theorem RVs.cut {c c' : C} (h0 : c.Le0 c') {p po : Nat → Bool} (hg : ∀ x, x < c.nv → c'.g x = c.g x) (hnv : c.nv ≤ c'.nv) (hr : ∀ x, x < c.nr → p x = false → c'.r x = c.r x) (hn : c.nr ≤ c'.nr) (ho : ∀ x, x < c.nb → po x = false → c'.ob x = c.ob x) (hb : c.nb ≤ c'.nb) : ∀ (vs : List V) (us : List Value), RVs c vs us → RVs c' (cutVs p po vs) us
  | [], us, h => by simpa [cutVs, RVs] using h
  | v :: vs, us, h => by
    simp only [cutVs, RVs] at h ⊢
    obtain ⟨u, us', e, h1, h2⟩ := h
    exact ⟨u, us', e, RV.cut h0 hg hnv hr hn ho hb v u h1, RVs.cut h0 hg hnv hr hn ho hb vs us' h2⟩
end
mutual
theorem RV.ren {c c' : C} {mv mr mo : Nat → Nat} {nv nr nb : Nat} {fl : Bool} (h0 : fl = false → c.Le0 c') (hg : ∀ k, k < nv → mv k < c'.nv ∧ c'.g (mv k) = c.g k) (hr : ∀ k, k < nr → mr k < c'.nr ∧ c'.r (mr k) = c.r k) (ho : ∀ k, k < nb → mo k < c'.nb ∧ c'.ob (mo k) = c.ob k) : ∀ (v : V) (u : Value), okV nv nr nb fl v = true → RV c v u → RV c' (renV mv mr mo v) u
  | .i k n, u, _, h | .b x, u, _, h | .v v, u, _, h | .nx b p r, u, _, h | .pt e, u, _, h => by simpa only [renV, RV] using h
  | .x t e, u, hk, h => by
    simp only [renV, RV, okV, Bool.or_eq_true, Bool.not_eq_true'] at h hk ⊢
    obtain ⟨us, e, hq⟩ := h
    rcases hk with hk | hk
    · exact ⟨us, e, hq.le (h0 hk)⟩
    · exact ⟨us, e, hq.flat hk⟩
  | .lp k o, u, hk, h => by
    simp only [renV, RV, okV, decide_eq_true_eq] at h hk ⊢
    rw [(hg k hk).2]
    exact ⟨(hg k hk).1, h.2⟩
  | .own k, u, hk, h | .vw k _ _ _, u, hk, h | .op k _ _ _, u, hk, h | .bk k _ _ _, u, hk, h => by
    simp only [renV, RV, okV, decide_eq_true_eq] at h hk ⊢
    rw [(hr k hk).2]
    exact ⟨(hr k hk).1, h.2⟩
  | .obj k, u, hk, h => by
    simp only [renV, RV, okV, decide_eq_true_eq] at h hk ⊢
    rw [(ho k hk).2]
    exact ⟨(ho k hk).1, h.2⟩
  | .ro t n l, u, hk, h => by
    simp only [renV, RV, okV, Bool.not_eq_true'] at h hk ⊢
    exact ⟨h.1, h.2.le (h0 hk)⟩
  | .rp t l i j, u, hk, h => by
    simp only [renV, RV, okV, Bool.not_eq_true'] at h hk ⊢
    obtain ⟨p0, p1, g, o, vs, e, hs, hl⟩ := h
    exact ⟨p0, p1, g, o, vs, e, hs.le (h0 hk), hl.le (h0 hk)⟩
  | .fn _ l, u, hk, h | .agg l, u, hk, h | .tup l, u, hk, h => by
    simp only [renV, RV, okV] at h hk ⊢
    obtain ⟨us, e, hq⟩ := h
    exact ⟨us, e, RVs.ren h0 hg hr ho l _ hk hq⟩
  | .junk, u, _, h => by simp [renV, RV]
theorem RVs.ren {c c' : C} {mv mr mo : Nat → Nat} {nv nr nb : Nat} {fl : Bool} (h0 : fl = false → c.Le0 c') (hg : ∀ k, k < nv → mv k < c'.nv ∧ c'.g (mv k) = c.g k) (hr : ∀ k, k < nr → mr k < c'.nr ∧ c'.r (mr k) = c.r k) (ho : ∀ k, k < nb → mo k < c'.nb ∧ c'.ob (mo k) = c.ob k) : ∀ (vs : List V) (us : List Value), okVs nv nr nb fl vs = true → RVs c vs us → RVs c' (renVs mv mr mo vs) us
  | [], us, _, h => by simpa [renVs, RVs] using h
  | v :: vs, us, hk, h => by
    simp only [renVs, RVs, okVs, Bool.and_eq_true] at h hk ⊢
    obtain ⟨u, us', e, h1, h2⟩ := h
    exact ⟨u, us', e, RV.ren h0 hg hr ho v u hk.1 h1, RVs.ren h0 hg hr ho vs us' hk.2 h2⟩
end
theorem cutVs_length (p po : Nat → Bool) : ∀ l : List V, (cutVs p po l).length = l.length
  | [] => rfl
  | _ :: l => by simp [cutVs, cutVs_length p po l]
theorem renVs_length (mv mr mo : Nat → Nat) : ∀ l : List V, (renVs mv mr mo l).length = l.length
  | [] => rfl
  | _ :: l => by simp [renVs, renVs_length mv mr mo l]
theorem Ctn.cut_size (p po : Nat → Bool) (ct : Ctn) : (ct.cut p po).size = ct.size := by cases ct <;> simp [Ctn.cut, Ctn.size, cutVs_length]
theorem Ctn.ren_size (mv mr mo : Nat → Nat) (ct : Ctn) : (ct.ren mv mr mo).size = ct.size := by cases ct <;> simp [Ctn.ren, Ctn.size, renVs_length]
theorem hitV_some {σ : Sg} {nvk x j : Nat} (h : hitV σ nvk x = some j) : j < nvk ∧ σ.sv j = x := by
  have h1 := List.mem_of_find?_eq_some h
  have h2 := List.find?_some h
  exact ⟨by simpa using h1, by simpa using h2⟩
theorem hitV_none {σ : Sg} {nvk x j : Nat} (h : hitV σ nvk x = none) (hj : j < nvk) : σ.sv j ≠ x := by
  have := List.find?_eq_none.1 h j (by simpa using hj)
  simpa using this
theorem hitO_some {σ : Sg} {nvk x j : Nat} (h : hitO σ nvk x = some j) : j < nvk ∧ σ.so j = x := by
  have h1 := List.mem_of_find?_eq_some h
  have h2 := List.find?_some h
  exact ⟨by simpa using h1, by simpa using h2⟩
theorem hitO_none {σ : Sg} {nvk x j : Nat} (h : hitO σ nvk x = none) (hj : j < nvk) : σ.so j ≠ x := by
  have := List.find?_eq_none.1 h j (by simpa using hj)
  simpa using this
theorem hitR_some {σ : Sg} {nrk r j : Nat} (h : hitR σ nrk r = some j) : j < nrk ∧ σ.sr j = some r := by
  have h1 := List.mem_of_find?_eq_some h
  have h2 := List.find?_some h
  exact ⟨by simpa using h1, by simpa using h2⟩
theorem hitR_none {σ : Sg} {nrk r j : Nat} (h : hitR σ nrk r = none) (hj : j < nrk) : σ.sr j ≠ some r := by
  have := List.find?_eq_none.1 h j (by simpa using hj)
  simpa using this

theorem Con.hV_some {k : Con} {σ : Sg} {x j : Nat} (h : k.hV σ x = some j) : k.ro = false ∧ j < k.vars.length ∧ σ.sv j = x := by
  unfold Con.hV at h
  split at h
  · cases h
  · rename_i hro
    exact ⟨by simpa using hro, hitV_some h⟩
theorem Con.hR_some {k : Con} {σ : Sg} {x j : Nat} (h : k.hR σ x = some j) : k.ro = false ∧ j < k.rows.length ∧ σ.sr j = some x := by
  unfold Con.hR at h
  split at h
  · cases h
  · rename_i hro
    exact ⟨by simpa using hro, hitR_some h⟩
theorem Con.hO_some {k : Con} {σ : Sg} {x j : Nat} (h : k.hO σ x = some j) : k.ro = false ∧ j < k.objs.length ∧ σ.so j = x := by
  unfold Con.hO at h
  split at h
  · cases h
  · rename_i hro
    exact ⟨by simpa using hro, hitO_some h⟩
theorem Con.hit_img {k : Con} {σ : Sg} {q q0 : Rt} (hro : k.ro = false) (h : σ.img k.vars.length k.rows.length k.objs.length q q0) : k.hit σ q0 = true := by
  cases h with
  | v x hx =>
    simp only [Con.hit, Con.hV, hro, Bool.false_eq_true, if_false]
    cases hh : hitV σ k.vars.length (σ.sv x) with
    | none => exact absurd rfl (hitV_none hh hx)
    | some _ => rfl
  | r x r hx hr =>
    simp only [Con.hit, Con.hR, hro, Bool.false_eq_true, if_false]
    cases hh : hitR σ k.rows.length r with
    | none => exact absurd hr (hitR_none hh hx)
    | some _ => rfl
  | o x hx =>
    simp only [Con.hit, Con.hO, hro, Bool.false_eq_true, if_false]
    cases hh : hitO σ k.objs.length (σ.so x) with
    | none => exact absurd rfl (hitO_none hh hx)
    | some _ => rfl

theorem RP.mks_t : ∀ {ps : List RP} {l : List U} {r : Nat} {b : Row}, (RP.mks ps l)[r]? = some b → ∃ p, ps[r]? = some p ∧ b.t = p.t
  | [], l, r, b, h => by cases l <;> simp [RP.mks] at h
  | p :: ps, [], r, b, h => by simp [RP.mks] at h
  | p :: ps, u :: l, 0, b, h => by simp [RP.mks] at h; subst h; exact ⟨p, rfl, rfl⟩
  | p :: ps, u :: l, r + 1, b, h => by simpa using RP.mks_t (ps := ps) (l := l) (r := r) (b := b) (by simpa [RP.mks] using h)
theorem Con.st_row {k : Con} {us : List U} {r : Nat} {b : Row} (h : (k.st us).rows[r]? = some b) : True ∧ ∃ p, k.rows[r]? = some p ∧ b.t = p.t := ⟨trivial, RP.mks_t h⟩
section
variable {P : Program} {T : TypeId → TI} {w0 : World} {fp : Base} {c : C} {s t : S} {a a' : Act} {f : FuncId} {R : Ending → World → Prop}

theorem Con.after_sound {k : Con} {args : List V} {us : List U} (h : Holds w0 fp c s a) (he : k.enter s args = some us) (ws : List Value) (hws : RVs c args ws) {vs : List Var} {rs : List Row} {qs : List Ob} {ret : V} (hleave : k.leave vs rs qs ret = true)
    {c1 : C} {u : Value} (hres : Holds c.w (baseOf fp.K k.ro (k.lendC c s (k.sg s args)) (k.st us)) c1 ⟨[], vs, rs, qs, [], k.lk⟩ ⟨#[], []⟩) (hret : RV c1 ret u) :
    ∃ c' : C, c'.w = c1.w ∧ Holds w0 fp c' (k.after s (k.sg s args) vs rs qs) a ∧ RV c' (renV (mvF (k.sg s args) k.vars.length s.vars.length) (mrF (k.sg s args) k.rows.length s.rows.length (frs (k.sg s args) k.rows.length rs.length)) (moF (k.sg s args) k.objs.length s.objs.length) ret) u ∧
      ∀ l, (∀ q, q ∈ l → k.hit (k.sg s args) q = false) → KeepR c s c' (k.after s (k.sg s args) vs rs qs) l := by
  obtain ⟨_, hok, hmay, hnv, hnr, hnb, hst, _, hvlt, hfoot, hrows, hobjs⟩ := Con.enter_sound h he ws hws
  generalize k.sg s args = σ at *
  generalize hF : frs σ k.rows.length rs.length = F
  generalize hmv : mvF σ k.vars.length s.vars.length = mv
  generalize hmr : mrF σ k.rows.length s.rows.length F = mr
  generalize hmo : moF σ k.objs.length s.objs.length = mo
  simp only [Con.leave, Bool.and_eq_true, decide_eq_true_eq] at hleave
  obtain ⟨⟨⟨⟨⟨⟨⟨lv1, lv2⟩, lv3⟩, lv4⟩, lv5⟩, lv6⟩, lv7⟩, ⟨lv8, lv9⟩, lv10⟩ := hleave
  have roFix : k.ro = true → (∀ (j : Nat) (p : RP), k.rows[j]? = some p → p.fix = true) ∧ k.objs = [] := fun hro => by
    simp only [Con.may, hro, if_true, Bool.and_eq_true, List.isEmpty_iff] at hmay
    exact ⟨fun j p hp => List.all_eq_true.1 hmay.1 p (List.mem_of_getElem? hp), hmay.2⟩
  have unl : k.ro = false → ∀ q q0, σ.img k.vars.length k.rows.length k.objs.length q q0 → fp.lk.has q0 = false := fun hro q q0 hi => by
    simp only [Con.may, hro, Bool.false_eq_true, if_false, Bool.and_eq_true] at hmay
    obtain ⟨⟨m1, m2⟩, m3⟩ := hmay
    rw [← h.lk]
    cases hi with
    | v x hx => have := List.all_eq_true.1 m1 x (by simpa using hx); simpa using this
    | r x r hx hr => have := List.all_eq_true.1 m2 x (by simpa using hx); rw [hr] at this; simpa using this
    | o x hx => have := List.all_eq_true.1 m3 x (by simpa using hx); simpa using this
  -- the anchors
  have agv : ∀ j, j < k.vars.length → c1.g j = c.g (σ.sv j) := fun j hj => by
    have := hres.ag j (c.g (σ.sv j)) (by
      simp only [baseOf, List.getElem?_map]
      rw [List.getElem?_range (by rw [hnv]; exact hj)]
      rfl)
    exact this.2
  have agr : ∀ j r p, k.rows[j]? = some p → p.fix = true → σ.sr j = some r → c1.r j = c.r r := fun j r p hp hpf hs => by
    have hj : j < k.rows.length := (List.getElem?_eq_some_iff.1 hp).1
    have hb := List.getElem?_eq_getElem (l := (k.st us).rows) (i := j) (by rw [hnr]; exact hj)
    obtain ⟨p', hp', hl', hf', _⟩ := hrows j _ hb
    rw [hp] at hp'
    obtain rfl := Option.some.inj hp'
    have := hres.ar j (c.r r) (by
      simp only [baseOf, List.getElem?_map]
      rw [List.getElem?_range (by rw [hnr]; exact hj)]
      simp only [Option.map_some, hb, hl', hf', hpf, Bool.and_self, if_true]
      simp [Con.lendC, C.lend, C.ren, hs])
    exact this.1
  have solt : ∀ j, j < k.objs.length → ∃ b, s.objs[σ.so j]? = some b ∧ b.live = true ∧ (k.st us).objs[j]? = some b := fun j hj => by
    have hb := List.getElem?_eq_getElem (l := (k.st us).objs) (i := j) (by rw [hnb]; exact hj)
    obtain ⟨q1, q2⟩ := hobjs j _ hb
    exact ⟨_, q2, q1, hb⟩
  have ago : ∀ j p, k.objs[j]? = some p → p.1.still = true → c1.ob j = c.ob (σ.so j) := fun j p hp hps => by
    have hj : j < k.objs.length := (List.getElem?_eq_some_iff.1 hp).1
    obtain ⟨b, _, hl, hb⟩ := solt j hj
    obtain ⟨p', hp', hk', _⟩ := OP.mks_get hb
    rw [hp] at hp'
    obtain rfl := Option.some.inj hp'
    have := hres.ao j (c.ob (σ.so j)) (by
      simp only [baseOf, List.getElem?_map]
      rw [List.getElem?_range (by rw [hnb]; exact hj)]
      simp only [Option.map_some, hb, hl, hk', hps, Bool.and_self, if_true]
      simp [Con.lendC, C.lend, C.ren])
    exact this.1
  have rsj : ∀ j, j < k.rows.length → ∃ b p, rs[j]? = some b ∧ k.rows[j]? = some p ∧ b.fix = p.fix ∧ b.e = p.e ∧ b.t.eq p.t = true := fun j hj => by
    have := List.all_eq_true.1 lv6 j (by simpa using hj)
    split at this
    · rename_i b p hb hp
      simp only [Bool.and_eq_true, beq_iff_eq] at this
      exact ⟨b, p, hb, hp, this.1.1, this.1.2, this.2⟩
    · cases this
  have srlt : ∀ j r, j < k.rows.length → σ.sr j = some r → ∃ b p, s.rows[r]? = some b ∧ b.live = true ∧ k.rows[j]? = some p ∧ b.e = p.e ∧ (p.fix = true ∨ b.fix = false) ∧ b.t.eq p.t = true := fun j r hj hs => by
    have hb := List.getElem?_eq_getElem (l := (k.st us).rows) (i := j) (by rw [hnr]; exact hj)
    obtain ⟨p, hp, _, _, hcase⟩ := hrows j _ hb
    rcases hcase with ⟨r', b, hs', hb', hl, he, hfx, ht⟩ | ⟨hs', _⟩
    · rw [hs] at hs'
      obtain rfl := Option.some.inj hs'
      exact ⟨b, p, hb', hl, hp, he, hfx, ht⟩
    · rw [hs] at hs'; cases hs'
  have hitRj : k.ro = false → ∀ j r, j < k.rows.length → σ.sr j = some r → k.hR σ r = some j := fun hro j r hj hs => by
    unfold Con.hR
    rw [hro]
    simp only [Bool.false_eq_true, if_false]
    cases hh : hitR σ k.rows.length r with
    | none => exact absurd hs (hitR_none hh hj)
    | some j' =>
      obtain ⟨q1, q2⟩ := hitR_some hh
      rw [Sg.sr_inj hok q1 hj q2 hs]
  have hitOj : k.ro = false → ∀ j, j < k.objs.length → k.hO σ (σ.so j) = some j := fun hro j hj => by
    unfold Con.hO
    rw [hro]
    simp only [Bool.false_eq_true, if_false]
    cases hh : hitO σ k.objs.length (σ.so j) with
    | none => exact absurd rfl (hitO_none hh hj)
    | some j' =>
      obtain ⟨q1, q2⟩ := hitO_some hh
      rw [Sg.so_inj hok q1 hj q2]
  have memF : ∀ j, j ∈ F ↔ j < rs.length ∧ (k.rows.length ≤ j ∨ σ.sr j = none) := fun j => by
    rw [← hF]
    simp [frs, Option.isNone_iff_eq_none]
  -- where everything lies
  let c' : C := { w := c1.w, F := if k.lend then c.F else c1.F, g := fun x => if x < s.vars.length then c.g x else c1.g (k.vars.length + (x - s.vars.length)), r := fun r => if r < s.rows.length then (match k.hR σ r with | some j => c1.r j | none => c.r r) else c1.r (F.getD (r - s.rows.length) 0), ob := fun x => if x < s.objs.length then (match k.hO σ x with | some j => c1.ob j | none => c.ob x) else c1.ob (k.objs.length + (x - s.objs.length)), fo := fun x => if x < s.objs.length then (match k.hO σ x with | some j => c1.fo j | none => c.fo x) else c1.fo (k.objs.length + (x - s.objs.length)), nv := s.vars.length + (vs.length - k.vars.length), nr := s.rows.length + F.length, nb := s.objs.length + (qs.length - k.objs.length) }
  have lF : ∀ p o, c.F p o → c1.F p o := fun p o hF => hres.eF p o (.inl hF)
  have F1 : ∀ p o, c.F p o → c'.F p o := fun p o hF => by
    show (if k.lend then c.F else c1.F) p o
    split
    · exact hF
    · exact lF p o hF
  have F2 : ∀ p o, c'.F p o → c.F p o ∨ c.w.heap.size ≤ p := fun p o hF => by
    have hF : (if k.lend then c.F else c1.F) p o := hF
    split at hF
    · exact .inl hF
    · rename_i hl
      rcases hres.eF2 p o hF with q | q
      · rcases q with q | ⟨l, hl', _⟩
        · exact .inl q
        · simp only [Con.used, hl, Bool.false_eq_true, if_false] at hl'; cases hl'
      · exact .inr q
  have F3 : ∀ p o, c'.F p o → c1.F p o := fun p o hF => by
    have hF : (if k.lend then c.F else c1.F) p o := hF
    split at hF
    · exact lF p o hF
    · exact hF
  have F4 : k.lend = false → c1.Le0 c' := fun hl => ⟨fun p o hF => by show (if k.lend then c.F else c1.F) p o; rw [hl]; exact hF, fun _ _ _ => rfl⟩
  have cg : ∀ x, x < s.vars.length → c'.g x = c.g x := fun x hx => if_pos hx
  have cg2 : ∀ x, ¬ x < s.vars.length → c'.g x = c1.g (k.vars.length + (x - s.vars.length)) := fun x hx => if_neg hx
  have crh : ∀ r j, r < s.rows.length → k.hR σ r = some j → c'.r r = c1.r j := fun r j hr hj => by
    show (if r < s.rows.length then (match k.hR σ r with | some j => c1.r j | none => c.r r) else _) = _
    rw [if_pos hr, hj]
  have crn : ∀ r, r < s.rows.length → k.hR σ r = none → c'.r r = c.r r := fun r hr hj => by
    show (if r < s.rows.length then (match k.hR σ r with | some j => c1.r j | none => c.r r) else _) = _
    rw [if_pos hr, hj]
  have cr2 : ∀ r, ¬ r < s.rows.length → c'.r r = c1.r (F.getD (r - s.rows.length) 0) := fun r hr => if_neg hr
  have coh : ∀ x j, x < s.objs.length → k.hO σ x = some j → c'.ob x = c1.ob j ∧ c'.fo x = c1.fo j := fun x j hx hj => by
    constructor
    · show (if x < s.objs.length then (match k.hO σ x with | some j => c1.ob j | none => c.ob x) else _) = _
      rw [if_pos hx, hj]
    · show (if x < s.objs.length then (match k.hO σ x with | some j => c1.fo j | none => c.fo x) else _) = _
      rw [if_pos hx, hj]
  have con : ∀ x, x < s.objs.length → k.hO σ x = none → c'.ob x = c.ob x ∧ c'.fo x = c.fo x := fun x hx hj => by
    constructor
    · show (if x < s.objs.length then (match k.hO σ x with | some j => c1.ob j | none => c.ob x) else _) = _
      rw [if_pos hx, hj]
    · show (if x < s.objs.length then (match k.hO σ x with | some j => c1.fo j | none => c.fo x) else _) = _
      rw [if_pos hx, hj]
  have co2 : ∀ x, ¬ x < s.objs.length → c'.ob x = c1.ob (k.objs.length + (x - s.objs.length)) ∧ c'.fo x = c1.fo (k.objs.length + (x - s.objs.length)) := fun x hx => ⟨if_neg hx, if_neg hx⟩
  have hG : ∀ j, j < vs.length → mv j < c'.nv ∧ c'.g (mv j) = c1.g j := fun j hj => by
    rw [← hmv]
    unfold mvF
    split
    · rename_i hk
      have := hvlt j hk
      exact ⟨by show _ < s.vars.length + _; omega, by rw [cg _ this, agv j hk]⟩
    · rename_i hk
      exact ⟨by show s.vars.length + (j - k.vars.length) < s.vars.length + (vs.length - k.vars.length); omega, by rw [cg2 _ (by omega), show k.vars.length + (s.vars.length + (j - k.vars.length) - s.vars.length) = j from by omega]⟩
  have hO : ∀ j, j < qs.length → mo j < c'.nb ∧ c'.ob (mo j) = c1.ob j := fun j hj => by
    rw [← hmo]
    unfold moF
    split
    · rename_i hk
      obtain ⟨b, hb, _⟩ := solt j hk
      have hlt := (List.getElem?_eq_some_iff.1 hb).1
      have hro : k.ro = false := by
        cases hro : k.ro with
        | false => rfl
        | true => rw [(roFix hro).2] at hk; cases hk
      exact ⟨by show _ < s.objs.length + _; omega, (coh _ j hlt (hitOj hro j hk)).1⟩
    · rename_i hk
      exact ⟨by show s.objs.length + (j - k.objs.length) < s.objs.length + (qs.length - k.objs.length); omega, by rw [(co2 _ (by omega)).1, show k.objs.length + (s.objs.length + (j - k.objs.length) - s.objs.length) = j from by omega]⟩
  have hRr : ∀ j, j < rs.length → mr j < c'.nr ∧ c'.r (mr j) = c1.r j := fun j hj => by
    rw [← hmr]
    unfold mrF
    split
    · rename_i r hr
      split at hr
      · rename_i hk
        obtain ⟨b, p, hb, _, hp, _⟩ := srlt j r hk hr
        have hlt := (List.getElem?_eq_some_iff.1 hb).1
        refine ⟨by show r < s.rows.length + _; omega, ?_⟩
        cases hro : k.ro with
        | false => exact crh r j hlt (hitRj hro j r hk hr)
        | true => rw [crn r hlt (by simp [Con.hR, hro]), agr j r p hp ((roFix hro).1 j p hp) hr]
      · cases hr
    · rename_i hr
      have hm : j ∈ F := (memF j).2 ⟨hj, by
        split at hr
        · exact .inr hr
        · rename_i hk; exact .inl (by omega)⟩
      have hi : F.idxOf j < F.length := List.idxOf_lt_length_iff.2 hm
      refine ⟨by show s.rows.length + F.idxOf j < s.rows.length + F.length; omega, ?_⟩
      rw [cr2 _ (by omega), Nat.add_sub_cancel_left]
      congr 1
      simp [List.getD_eq_getElem?_getD, List.getElem?_eq_getElem hi]
  have hren := RV.ren F4 hG hRr hO
  have hrens := RVs.ren F4 hG hRr hO
  have rect : ∀ (ct : Ctn) xs, ct.okB vs.length rs.length qs.length k.lend = true → RCt c1 ct xs → RCt c' (ct.ren mv mr mo) xs := fun ct xs ho hx => by
    cases ct with
    | pk t e =>
      simp only [Ctn.okB, Bool.or_eq_true, Bool.not_eq_true'] at ho
      rcases ho with ho | ho
      · exact Rp.le (F4 ho) hx
      · exact Rp.flat ho hx
    | ls l => exact hrens l xs ho hx
  have rpl : ∀ {t : Tp} {l : List t.T} {xs : List Value}, (!k.lend || t.flat) = true → RpL (Rp c1 t) l xs → RpL (Rp c' t) l xs := fun ho hx => by
    simp only [Bool.or_eq_true, Bool.not_eq_true'] at ho
    rcases ho with ho | ho
    · exact RpL.le (F4 ho) hx
    · exact hx.mono fun x us hx => hx.flat ho
  -- what stays
  have hkeeps := hres.keeps
  have kpat : ∀ p o, (baseOf fp.K k.ro (k.lendC c s σ) (k.st us)).kp p o → ∃ q, foot (k.lendC c s σ) (k.st us) q p o := fun p o hk => hk.2
  have feetM : ∀ p o, (∃ q, foot (k.lendC c s σ) (k.st us) q p o) → ∃ q q0, σ.img k.vars.length k.rows.length k.objs.length q q0 ∧ foot (k.lendC c s σ) (k.st us) q p o ∧ foot c s q0 p o := fun p o hf => by
    obtain ⟨q, hq⟩ := hf
    obtain ⟨q0, i0, g0⟩ := hfoot q p o hq
    exact ⟨q, q0, i0, hq, g0⟩
  have feetA : ∀ q p o, foot (k.lendC c s σ) (k.st us) q p o → ∃ q0, σ.img k.vars.length k.rows.length k.objs.length q q0 ∧ (w0.heap.size ≤ p ∨ fp.own q0 p o) := fun q p o hf => by
    obtain ⟨q0, i0, g0⟩ := hfoot q p o hf
    exact ⟨q0, i0, (h.mine _ p o g0).1⟩
  have feetF : ∀ p o, (baseOf fp.K k.ro (k.lendC c s σ) (k.st us)).kp p o → (w0.heap.size ≤ p ∨ fp.kp p o) ∧ ¬ c.F p o := fun p o hf => by
    obtain ⟨q, q0, i0, _, g0⟩ := feetM p o (kpat p o hf)
    exact ⟨h.free _ p o g0 (unl hf.1 q q0 i0), (h.mine _ p o g0).2⟩
  have le0 : c.Le0 c' := ⟨F1, fun p o hF => hkeeps.spot p o (h.flt p o hF) (fun hf => (feetF p o hf).2 hF)⟩
  have notHit : ∀ q, k.hit σ q = false → ∀ p o, foot c s q p o → ¬ (baseOf fp.K k.ro (k.lendC c s σ) (k.st us)).kp p o := fun q hq p o hf hfe => by
    obtain ⟨q1, q0, i0, _, g0⟩ := feetM p o (kpat p o hfe)
    obtain rfl := h.disj _ _ p o hf g0
    rw [Con.hit_img hfe.1 i0] at hq; cases hq
  have spotN : ∀ q, k.hit σ q = false → ∀ p o, foot c s q p o → spot c1.w p o = spot c.w p o := fun q hq p o hf => hkeeps.spot p o (foot_lt h hf) (notHit q hq p o hf)
  have same : ∀ r, r < c.nr → movR σ k.rows r = false → c'.r r = c.r r := fun r hr hm => by
    have hr' : r < s.rows.length := by rw [← h.nr]; exact hr
    cases hh : k.hR σ r with
    | none => exact crn r hr' hh
    | some j =>
      obtain ⟨_, q1, q2⟩ := Con.hR_some hh
      obtain ⟨b, p, _, _, hp, _⟩ := srlt j r q1 q2
      rw [crh r j hr' hh]
      refine agr j r p hp ?_ q2
      have := List.any_eq_false.1 hm j (by simpa using q1)
      simpa [q2, hp] using this
  have sameO : ∀ x, x < c.nb → movO σ k.objs x = false → c'.ob x = c.ob x := fun x hx hm => by
    have hx' : x < s.objs.length := by rw [← h.nb]; exact hx
    cases hh : k.hO σ x with
    | none => exact (con x hx' hh).1
    | some j =>
      obtain ⟨_, q1, q2⟩ := Con.hO_some hh
      have hp := List.getElem?_eq_getElem (l := k.objs) (i := j) q1
      rw [(coh x j hx' hh).1, ← q2]
      refine ago j _ hp ?_
      have := List.any_eq_false.1 hm j (by simpa using q1)
      simpa [q2, hp] using this
  have kl := RVs.cut le0 (p := movR σ k.rows) (po := movO σ k.objs) (fun x hx => cg x (by rw [← h.nv]; exact hx)) (by show c.nv ≤ s.vars.length + _; rw [h.nv]; omega) same (by show c.nr ≤ s.rows.length + _; rw [h.nr]; omega) sameO (by show c.nb ≤ s.objs.length + _; rw [h.nb]; omega)
  -- what is behind the call
  have varsGet : ∀ x b', (k.after s σ vs rs qs).vars[x]? = some b' → (x < s.vars.length ∧ ∃ b, s.vars[x]? = some b ∧ ((∃ j b1, k.hV σ x = some j ∧ vs[j]? = some b1 ∧ b' = ⟨true, b1.ct.ren mv mr mo⟩) ∨ (k.hV σ x = none ∧ b' = ⟨b.live, b.ct.cut (movR σ k.rows) (movO σ k.objs)⟩))) ∨
      (∃ j b1, ¬ x < s.vars.length ∧ j = k.vars.length + (x - s.vars.length) ∧ vs[j]? = some b1 ∧ b' = ⟨true, b1.ct.ren mv mr mo⟩) := fun x b' hb' => by
    simp only [Con.after, hF, hmv, hmr, hmo, List.getElem?_append, mapI_length, mapI_get] at hb'
    split at hb'
    · rename_i hx
      obtain ⟨b, hb, hb'⟩ := Option.map_eq_some_iff.1 hb'
      refine .inl ⟨hx, b, hb, ?_⟩
      rw [Nat.zero_add] at hb'
      cases hh : k.hV σ x with
      | none => rw [hh] at hb'; exact .inr ⟨rfl, hb'.symm⟩
      | some j =>
        rw [hh] at hb'
        obtain ⟨_, q1, q2⟩ := Con.hV_some hh
        have hj := List.getElem?_eq_getElem (l := vs) (i := j) (by omega)
        simp only [hj] at hb'
        exact .inl ⟨j, _, rfl, hj, hb'.symm⟩
    · rename_i hx
      simp only [List.getElem?_map, List.getElem?_drop, Option.map_eq_some_iff] at hb'
      obtain ⟨b1, hb1, rfl⟩ := hb'
      exact .inr ⟨_, b1, hx, rfl, hb1, rfl⟩
  have rowsGet : ∀ r b', (k.after s σ vs rs qs).rows[r]? = some b' → (r < s.rows.length ∧ ∃ b, s.rows[r]? = some b ∧ ((∃ j b1, k.hR σ r = some j ∧ rs[j]? = some b1 ∧ b' = ⟨b.live, b.fix, b.e, b1.t, b1.n, b1.l⟩) ∨ (k.hR σ r = none ∧ b' = b))) ∨
      (¬ r < s.rows.length ∧ ∃ j, F[r - s.rows.length]? = some j ∧ rs[j]? = some b') := fun r b' hb' => by
    simp only [Con.after, hF, hmv, hmr, hmo, List.getElem?_append, mapI_length, mapI_get] at hb'
    split at hb'
    · rename_i hr
      obtain ⟨b, hb, hb'⟩ := Option.map_eq_some_iff.1 hb'
      refine .inl ⟨hr, b, hb, ?_⟩
      rw [Nat.zero_add] at hb'
      cases hh : k.hR σ r with
      | none => rw [hh] at hb'; exact .inr ⟨rfl, hb'.symm⟩
      | some j =>
        rw [hh] at hb'
        obtain ⟨_, q1, q2⟩ := Con.hR_some hh
        have hj := List.getElem?_eq_getElem (l := rs) (i := j) (by omega)
        simp only [hj] at hb'
        exact .inl ⟨j, _, rfl, hj, hb'.symm⟩
    · rename_i hr
      refine .inr ⟨hr, ?_⟩
      have fm : ∀ (L : List Nat) (i : Nat) (y : Row), (∀ j ∈ L, j < rs.length) → (L.filterMap fun j => rs[j]?)[i]? = some y → ∃ j, L[i]? = some j ∧ rs[j]? = some y := by
        intro L
        induction L with
        | nil => intro i y _ hy; simp at hy
        | cons z L ih =>
          intro i y hL hy
          have hz := List.getElem?_eq_getElem (l := rs) (i := z) (hL z (by simp))
          rw [List.filterMap_cons, hz] at hy
          cases i with
          | zero => simp at hy; subst hy; exact ⟨z, rfl, hz⟩
          | succ i => simpa using ih i y (fun j hj => hL j (by simp [hj])) (by simpa using hy)
      exact fm F _ b' (fun j hj => ((memF j).1 hj).1) hb'
  have objsGet : ∀ x b', (k.after s σ vs rs qs).objs[x]? = some b' → (x < s.objs.length ∧ ∃ b, s.objs[x]? = some b ∧ ((∃ j, k.hO σ x = some j ∧ qs[j]? = some b') ∨ (k.hO σ x = none ∧ b' = b))) ∨
      (∃ j, ¬ x < s.objs.length ∧ j = k.objs.length + (x - s.objs.length) ∧ qs[j]? = some b') := fun x b' hb' => by
    simp only [Con.after, hF, hmv, hmr, hmo, List.getElem?_append, mapI_length, mapI_get] at hb'
    split at hb'
    · rename_i hx
      obtain ⟨b, hb, hb'⟩ := Option.map_eq_some_iff.1 hb'
      refine .inl ⟨hx, b, hb, ?_⟩
      rw [Nat.zero_add] at hb'
      cases hh : k.hO σ x with
      | none => rw [hh] at hb'; exact .inr ⟨rfl, hb'.symm⟩
      | some j =>
        rw [hh] at hb'
        obtain ⟨_, q1, q2⟩ := Con.hO_some hh
        have hj := List.getElem?_eq_getElem (l := qs) (i := j) (by omega)
        simp only [hj] at hb'
        exact .inl ⟨j, rfl, by rw [hj, hb']⟩
    · rename_i hx
      rw [List.getElem?_drop] at hb'
      exact .inr ⟨_, hx, rfl, hb'⟩
  have vsOK : ∀ (j : Nat) (b1 : Var), vs[j]? = some b1 → b1.live = true ∧ b1.ct.okB vs.length rs.length qs.length k.lend = true := fun j b1 hb => by
    have := List.all_eq_true.1 lv3 b1 (List.mem_of_getElem? hb)
    simpa using this
  have rsOK : ∀ (j : Nat) (b1 : Row), rs[j]? = some b1 → b1.live = true ∧ (!k.lend || b1.t.flat) = true := fun j b1 hb => by
    have := List.all_eq_true.1 lv4 b1 (List.mem_of_getElem? hb)
    simpa using this
  have qsOK : ∀ (j : Nat) (b1 : Ob), qs[j]? = some b1 → b1.live = true ∧ k.lend = false := fun j b1 hb => by
    refine ⟨by simpa using List.all_eq_true.1 lv9 b1 (List.mem_of_getElem? hb), ?_⟩
    simp only [Bool.or_eq_true, Bool.not_eq_true', List.isEmpty_iff] at lv10
    rcases lv10 with q | q
    · exact q
    · rw [q] at hb; simp at hb
  have freshFix : ∀ (j : Nat) (b1 : Row), j ∈ F → rs[j]? = some b1 → b1.fix = false := fun j b1 hj hb => by
    obtain ⟨q1, q2⟩ := (memF j).1 hj
    by_cases hk : j < k.rows.length
    · have hb0 := List.getElem?_eq_getElem (l := (k.st us).rows) (i := j) (by rw [hnr]; exact hk)
      obtain ⟨p, hp, _, _, hcase⟩ := hrows j _ hb0
      obtain ⟨b2, p2, hb2, hp2, hf2, _⟩ := rsj j hk
      rw [hb] at hb2
      obtain rfl := Option.some.inj hb2
      rw [hp] at hp2
      obtain rfl := Option.some.inj hp2
      rcases hcase with ⟨r', b, hs', _⟩ | ⟨_, hpf⟩
      · rcases q2 with q2 | q2
        · omega
        · rw [hs'] at q2; cases q2
      · rw [hf2]; exact hpf
    · have := List.all_eq_true.1 lv7 b1 (List.mem_of_getElem? (i := j - k.rows.length) (by rw [List.getElem?_drop, show k.rows.length + (j - k.rows.length) = j from by omega]; exact hb))
      simpa using this
  have freshRo : k.ro = true → ∀ j, j ∈ F → k.rows.length ≤ j := fun hro j hj => by
    obtain ⟨q1, q2⟩ := (memF j).1 hj
    rcases Nat.lt_or_ge j k.rows.length with hk | hk
    · have hb0 := List.getElem?_eq_getElem (l := (k.st us).rows) (i := j) (by rw [hnr]; exact hk)
      obtain ⟨p, hp, _, _, hcase⟩ := hrows j _ hb0
      rcases hcase with ⟨r', b, hs', _⟩ | ⟨_, hpf⟩
      · rcases q2 with q2 | q2
        · exact q2
        · rw [hs'] at q2; cases q2
      · rw [(roFix hro).1 j p hp] at hpf; cases hpf
    · exact hk
  have roLk : k.ro = true → k.lk = ⟨k.vars.length, k.rows.length, 0, k.rows.length⟩ := fun hro => by simp [Con.lk, hro]
  -- the footprints: those of old, and those of the call
  have hff : ∀ q p o, foot c' (k.after s σ vs rs qs) q p o →
      (foot c s q p o ∧ (k.hit σ q = false ∨ (k.ro = false ∧ ∃ r j p', q = .r r ∧ j < k.rows.length ∧ σ.sr j = some r ∧ k.rows[j]? = some p' ∧ p'.fix = true))) ∨
      (∃ q1, foot c1 ⟨[], vs, rs, qs, [], k.lk⟩ q1 p o ∧ (k.ro = true → k.lk.has q1 = false) ∧ (∀ j b1, q1 = .r j → rs[j]? = some b1 → b1.fix = false) ∧
        ((∃ j, q1 = .v j ∧ q = .v (mv j) ∧ j < vs.length) ∨ (∃ j, q1 = .r j ∧ q = .r (mr j) ∧ j < rs.length) ∨ (∃ j, q1 = .o j ∧ q = .o (mo j) ∧ j < qs.length)) ∧ (k.ro = false → ∀ j q0, q1 = j → σ.img k.vars.length k.rows.length k.objs.length j q0 → q = q0)) := by
    intro q p o hq
    cases q with
    | v x =>
      obtain ⟨b', hb', hl', hk⟩ := hq
      rcases varsGet x b' hb' with ⟨hx, b, hb, ⟨j, b1, hh, hb1, rfl⟩ | ⟨hh, rfl⟩⟩ | ⟨j, b1, hx, hj, hb1, rfl⟩
      · obtain ⟨hro, q1, q2⟩ := Con.hV_some hh
        have hjl := (List.getElem?_eq_some_iff.1 hb1).1
        have hmj : mv j = x := by rw [← hmv]; unfold mvF; rw [if_pos q1, q2]
        refine .inr ⟨.v j, ⟨b1, hb1, (vsOK j b1 hb1).1, ?_⟩, fun h => (by rw [hro] at h; cases h), fun _ _ e _ => (by cases e), .inl ⟨j, rfl, by rw [hmj], hjl⟩, fun _ j' q0 e hi => ?_⟩
        · simp only [Ctn.ren_size] at hk
          unfold varF at hk ⊢
          rw [← (hG j hjl).2, hmj]
          exact hk
        · subst e; cases hi with | v _ _ => rw [q2]
      · refine .inl ⟨⟨b, hb, hl', ?_⟩, .inl (by simp [Con.hit, hh])⟩
        simp only [Ctn.cut_size] at hk
        unfold varF at hk ⊢
        rw [← cg x hx]
        exact hk
      · have hjl := (List.getElem?_eq_some_iff.1 hb1).1
        have hmj : mv j = x := by rw [← hmv]; unfold mvF; rw [if_neg (by omega)]; omega
        refine .inr ⟨.v j, ⟨b1, hb1, (vsOK j b1 hb1).1, ?_⟩, fun h => (by rw [roLk h]; simp [LK.has]; omega), fun _ _ e _ => (by cases e), .inl ⟨j, rfl, by rw [hmj], hjl⟩, fun _ j' q0 e hi => ?_⟩
        · simp only [Ctn.ren_size] at hk
          unfold varF at hk ⊢
          rw [← (hG j hjl).2, hmj]
          exact hk
        · subst e; cases hi with | v _ hlt => omega
    | r r =>
      obtain ⟨b', hb', hl', hk⟩ := hq
      rcases rowsGet r b' hb' with ⟨hr, b, hb, ⟨j, b1, hh, hb1, rfl⟩ | ⟨hh, rfl⟩⟩ | ⟨hr, j, hj, hb1⟩
      · obtain ⟨hro, q1, q2⟩ := Con.hR_some hh
        obtain ⟨b0, p0, hb0, hl0, hp0, he0, hfx, ht0⟩ := srlt j r q1 q2
        rw [hb] at hb0
        obtain rfl := Option.some.inj hb0
        obtain ⟨b2, p2, hb2, hp2, hf2, he2, ht2⟩ := rsj j q1
        rw [hb1] at hb2
        obtain rfl := Option.some.inj hb2
        rw [hp0] at hp2
        obtain rfl := Option.some.inj hp2
        have htt : b1.t.size = b.t.size := by rw [Tp.of_eq ht2, Tp.of_eq ht0]
        rw [crh r j hr hh] at hk
        simp only at hk
        cases hpf : p0.fix with
        | true =>
          rw [agr j r p0 hp0 hpf q2, htt] at hk
          exact .inl ⟨⟨b, hb, hl0, hk⟩, .inr ⟨hro, r, j, p0, rfl, q1, q2, hp0, hpf⟩⟩
        | false =>
          have hbf : b.fix = false := by
            rcases hfx with e | e
            · rw [hpf] at e; cases e
            · exact e
          have hb1f : b1.fix = false := by rw [hf2, hpf]
          rw [hbf] at hk
          have hmj : mr j = r := by rw [← hmr]; unfold mrF; rw [if_pos q1, q2]
          refine .inr ⟨.r j, ⟨b1, hb1, (rsOK j b1 hb1).1, by rw [hb1f]; exact hk⟩, fun h => (by rw [hro] at h; cases h), fun j' b1' e hb => (by injection e with e; subst e; rw [hb1] at hb; obtain rfl := Option.some.inj hb; exact hb1f), .inr (.inl ⟨j, rfl, by rw [hmj], (List.getElem?_eq_some_iff.1 hb1).1⟩), fun _ j' q0 e hi => ?_⟩
          subst e
          cases hi with | r _ r' _ hr' => rw [q2] at hr'; rw [Option.some.inj hr']
      · rw [crn r hr hh] at hk
        exact .inl ⟨⟨b', hb, hl', hk⟩, .inl (by simp [Con.hit, hh])⟩
      · have hjF : j ∈ F := List.mem_of_getElem? hj
        have hjl := (List.getElem?_eq_some_iff.1 hb1).1
        rw [cr2 r hr, List.getD_eq_getElem?_getD, hj, Option.getD_some] at hk
        have hnd : F.Nodup := by rw [← hF]; exact List.Pairwise.filter _ List.nodup_range
        have hidx : F.idxOf j = r - s.rows.length := by
          have hlt := (List.getElem?_eq_some_iff.1 hj).1
          have hge := (List.getElem?_eq_some_iff.1 hj).2
          rw [← hge]
          exact List.Nodup.idxOf_getElem hnd _ hlt
        have hmj : mr j = r := by
          rw [← hmr]
          unfold mrF
          split
          · rename_i r' hr'
            exfalso
            obtain ⟨_, q2⟩ := (memF j).1 hjF
            split at hr'
            · rcases q2 with q2 | q2
              · omega
              · rw [q2] at hr'; cases hr'
            · cases hr'
          · rw [hidx]; omega
        refine .inr ⟨.r j, ⟨b', hb1, hl', hk⟩, fun h => (by rw [roLk h]; have := freshRo h j hjF; simp [LK.has]; omega), fun j' b1' e hb => (by injection e with e; subst e; rw [hb1] at hb; obtain rfl := Option.some.inj hb; exact freshFix j b' hjF hb1), .inr (.inl ⟨j, rfl, by rw [hmj], hjl⟩), fun _ j' q0 e hi => ?_⟩
        subst e
        cases hi with
        | r _ r' hlt hr' =>
          obtain ⟨_, q2⟩ := (memF j).1 hjF
          rcases q2 with q2 | q2
          · omega
          · rw [q2] at hr'; cases hr'
    | o x =>
      obtain ⟨b', hb', hl', hk⟩ := hq
      rcases objsGet x b' hb' with ⟨hx, b, hb, ⟨j, hh, hb1⟩ | ⟨hh, rfl⟩⟩ | ⟨j, hx, hj, hb1⟩
      · obtain ⟨hro, q1, q2⟩ := Con.hO_some hh
        have hjl := (List.getElem?_eq_some_iff.1 hb1).1
        have hmj : mo j = x := by rw [← hmo]; unfold moF; rw [if_pos q1, q2]
        refine .inr ⟨.o j, ⟨b', hb1, hl', by rw [← (coh x j hx hh).2]; exact hk⟩, fun h => (by rw [hro] at h; cases h), fun _ _ e _ => (by cases e), .inr (.inr ⟨j, rfl, by rw [hmj], hjl⟩), fun _ j' q0 e hi => ?_⟩
        subst e; cases hi with | o _ _ => rw [q2]
      · exact .inl ⟨⟨b', hb, hl', by rw [← (con x hx hh).2]; exact hk⟩, .inl (by simp [Con.hit, hh])⟩
      · have hjl := (List.getElem?_eq_some_iff.1 hb1).1
        have hmj : mo j = x := by rw [← hmo]; unfold moF; rw [if_neg (by omega)]; omega
        refine .inr ⟨.o j, ⟨b', hb1, hl', by rw [hj, ← (co2 x hx).2]; exact hk⟩, fun h => (by rw [roLk h]; simp [LK.has]), fun _ _ e _ => (by cases e), .inr (.inr ⟨j, rfl, by rw [hmj], hjl⟩), fun _ j' q0 e hi => ?_⟩
        subst e; cases hi with | o _ hlt => omega
  -- the two kinds do not meet
  have apart : ∀ q q1 p o, foot c s q p o → (k.hit σ q = false ∨ (k.ro = false ∧ ∃ r j p', q = .r r ∧ j < k.rows.length ∧ σ.sr j = some r ∧ k.rows[j]? = some p' ∧ p'.fix = true)) →
      foot c1 ⟨[], vs, rs, qs, [], k.lk⟩ q1 p o → (k.ro = true → k.lk.has q1 = false) → (∀ j b1, q1 = .r j → rs[j]? = some b1 → b1.fix = false) → False := fun q q1 p o hq hk h1 hlk1 hnf => by
    cases hro : k.ro with
    | true =>
      rcases hres.free q1 p o h1 (hlk1 hro) with hlt | hkp
      · have := foot_lt h hq; omega
      · have := hkp.1; rw [hro] at this; cases this
    | false =>
      rcases (hres.mine q1 p o h1).1.imp id Base.own_some with hlt | ⟨_, hfe⟩
      · have := foot_lt h hq; omega
      · rcases hk with hk | ⟨_, r, j, p', rfl, hj, hs, hp, hpf⟩
        · exact notHit q hk p o hq ⟨hro, _, hfe⟩
        · obtain ⟨q2, q0, i0, hq2, g0⟩ := feetM p o ⟨_, hfe⟩
          have e := h.disj _ _ p o hq g0
          subst e
          cases i0 with
          | r x _ hx hs' =>
            obtain rfl := Sg.sr_inj hok hx hj hs' hs
            obtain ⟨b0, hb0, _, hk0⟩ := hq2
            obtain ⟨p2, hp2, _, hf2, hcase⟩ := hrows x b0 hb0
            rw [hp] at hp2
            obtain rfl := Option.some.inj hp2
            obtain ⟨b1, p3, hb1, hp3, hf3, _, ht3⟩ := rsj x hx
            rw [hp] at hp3
            obtain rfl := Option.some.inj hp3
            have ht0 : b0.t.size = b1.t.size := by
              have hst0 := (Con.st_row (k := k) (us := us) hb0).2
              obtain ⟨p4, hp4, e4⟩ := hst0
              rw [hp] at hp4
              obtain rfl := Option.some.inj hp4
              rw [e4, Tp.of_eq ht3]
            have hc0 : (k.lendC c s σ).r x = c.r r := by simp [Con.lendC, C.lend, C.ren, hs']
            have hin : foot c1 ⟨[], vs, rs, qs, [], k.lk⟩ (.r x) p o := ⟨b1, hb1, (rsOK x b1 hb1).1, by
              rw [agr x r p' hp hpf hs', hf3, ← ht0]
              rw [hc0, hf2] at hk0
              exact hk0⟩
            have e := hres.disj _ _ p o h1 hin
            have := hnf x b1 e hb1
            rw [hf3, hpf] at this
            cases this
  refine ⟨c', rfl, ?_, hren ret u lv5 hret, fun l hl => ⟨fun p o hk => ?_, fun p o hk => ?_⟩⟩
  · refine { gl := fun p hp => ⟨F1 _ _ (h.gl p hp).1, cell_of_spot (le0.spot _ _ (h.gl p hp).1) (h.gl p hp).2⟩, lk := h.lk, fpk := h.fpk, keeps := ⟨hkeeps.os.trans h.keeps.os, hkeeps.tape.trans h.keeps.tape, hkeeps.output.trans h.keeps.output, Nat.le_trans h.keeps.size hkeeps.size, fun p o hlt hnf => ?_, fun p cs e f hp => ?_, Nat.le_trans h.keeps.drawn hkeeps.drawn⟩, eF := fun p o hF => F1 p o (h.eF p o hF), eF2 := fun p o hF => ?_, tmps := kl _ _ h.tmps, defers := h.defers, nv := ?_, nr := ?_, nb := ?_, vars := ?_, rows := ?_, objs := ?_, disj := ?_, mine := ?_, free := ?_, flt := ?_, ag := ?_, ar := ?_, ao := ?_ }
    · refine (hkeeps.spot p o (Nat.lt_of_lt_of_le hlt h.keeps.size) (fun hf => ?_)).trans (h.keeps.spot p o hlt hnf)
      rcases (feetF p o hf).1 with q | q
      · omega
      · exact hnf q
    · obtain ⟨c2, e1, e2⟩ := h.keeps.shape p cs e f hp
      obtain ⟨c3, e3, e4⟩ := hkeeps.shape p c2 e f e1
      exact ⟨c3, e3, e4.trans e2⟩
    · rcases F2 p o hF with q | q
      · exact h.eF2 p o q
      · exact .inr (Nat.le_trans h.keeps.size q)
    · show s.vars.length + (vs.length - k.vars.length) = (k.after s σ vs rs qs).vars.length
      simp [Con.after, mapI_length]
    · show s.rows.length + F.length = (k.after s σ vs rs qs).rows.length
      have : ∀ L : List Nat, (∀ j ∈ L, j < rs.length) → (L.filterMap fun j => rs[j]?).length = L.length := by
        intro L
        induction L with
        | nil => intro _; rfl
        | cons z L ih =>
          intro hL
          rw [List.filterMap_cons, List.getElem?_eq_getElem (hL z (by simp))]
          simp [ih (fun j hj => hL j (by simp [hj]))]
      simp only [Con.after, hF, List.length_append, mapI_length]
      rw [this F (fun j hj => ((memF j).1 hj).1)]
    · show s.objs.length + (qs.length - k.objs.length) = (k.after s σ vs rs qs).objs.length
      simp [Con.after, mapI_length]
    · intro x b' hb' hl'
      have fromCall : ∀ j b1, vs[j]? = some b1 → mv j = x → VarOK c' x ⟨true, b1.ct.ren mv mr mo⟩ := fun j b1 hb1 hmj => by
        have hvar := hres.vars j b1 hb1 (vsOK j b1 hb1).1
        obtain ⟨xs, hc, hu⟩ := hvar.at_
        have hjl := (List.getElem?_eq_some_iff.1 hb1).1
        refine ⟨by simp only [Ctn.ren_size]; exact hvar.pos, xs, ?_, rect _ xs (vsOK j b1 hb1).2 hu⟩
        rw [← hmj, (hG j hjl).2]
        exact hc
      rcases varsGet x b' hb' with ⟨hx, b, hb, ⟨j, b1, hh, hb1, rfl⟩ | ⟨hh, rfl⟩⟩ | ⟨j, b1, hx, hj, hb1, rfl⟩
      · obtain ⟨_, q1, q2⟩ := Con.hV_some hh
        exact fromCall j b1 hb1 (by rw [← hmv]; unfold mvF; rw [if_pos q1, q2])
      · refine (h.vars x b hb hl').keep (fun p o hf => spotN (.v x) (by simp [Con.hit, hh]) p o ⟨b, hb, hl', hf⟩) (cg x hx) (Ctn.cut_size _ _ _) (fun xs hxs => ?_)
        cases hct : b.ct with
        | pk t e => rw [hct] at hxs; exact Rp.le le0 hxs
        | ls l => rw [hct] at hxs; exact kl _ _ hxs
      · exact fromCall j b1 hb1 (by rw [← hmv]; unfold mvF; rw [if_neg (by omega)]; omega)
    · intro r b' hb' hl'
      rcases rowsGet r b' hb' with ⟨hr, b, hb, ⟨j, b1, hh, hb1, rfl⟩ | ⟨hh, rfl⟩⟩ | ⟨hr, j, hj, hb1⟩
      · obtain ⟨_, q1, q2⟩ := Con.hR_some hh
        obtain ⟨b0, p0, hb0, hl0, hp0, he0, hfx, ht0⟩ := srlt j r q1 q2
        rw [hb] at hb0
        obtain rfl := Option.some.inj hb0
        obtain ⟨b2, p2, hb2, hp2, hf2, he2, ht2⟩ := rsj j q1
        rw [hb1] at hb2
        obtain rfl := Option.some.inj hb2
        rw [hp0] at hp2
        obtain rfl := Option.some.inj hp2
        have htt : b1.t.size = b.t.size := by rw [Tp.of_eq ht2, Tp.of_eq ht0]
        have hrow := hres.rows j b1 hb1 (rsOK j b1 hb1).1
        obtain ⟨xs, hat, hR⟩ := hrow.at_
        refine ⟨hrow.len, xs, ?_, rpl (rsOK j b1 hb1).2 hR⟩
        rw [crh r j hr hh]
        show RowAt c1.w b.fix b.e b1.t.size (c1.r j) b1.l.length xs
        cases hbf : b.fix with
        | true => exact hat.fixed
        | false =>
          cases hpf : p0.fix with
          | false =>
            have e1 : b1.fix = false := by rw [hf2, hpf]
            rw [e1, he2, ← he0] at hat
            exact hat
          | true =>
            have hv := agr j r p0 hp0 hpf q2
            obtain ⟨xs0, hat0, _⟩ := (h.rows r b hb hl0).at_
            rw [hbf] at hat0
            refine ⟨hat.len, ?_⟩
            rw [hv] at hat ⊢
            rcases hat0.at_ with ⟨e, _⟩ | ⟨e, _⟩ | ⟨g, o, cap, e, h1, h2, h3, h4⟩
            · left
              refine ⟨e, ?_⟩
              rcases hat.at_ with ⟨_, q⟩ | ⟨_, q, _⟩ | ⟨g, o, cap, e', _⟩
              · exact q
              · exact q
              · rw [e] at e'; cases e'
            · cases e
            · right; right
              obtain ⟨rfl, cur, hg, hsz⟩ := h4 rfl
              obtain ⟨cur', hg', hsz'⟩ := hkeeps.shape g cur _ _ hg
              have hn : b1.l.length = b.l.length := by
                rcases hat.at_ with ⟨q, _⟩ | ⟨_, q, A, cp, e', _⟩ | ⟨g', o', cap', e', _⟩
                · rw [e] at q; cases q
                · rw [e] at e'; simp only [Value.slice.injEq] at e'; omega
                · rw [e] at e'; simp only [Value.slice.injEq] at e'; omega
              have hc : Cells c1.w g 0 xs := by
                rcases hat.at_ with ⟨q, _⟩ | ⟨_, q, _⟩ | ⟨g', o', cap', e', _, _, hc, _⟩
                · rw [e] at q; cases q
                · have : xs = [] := List.eq_nil_of_length_eq_zero (by rw [hat.len, q]; simp)
                  subst this
                  exact ⟨cur', _, hg', by simp, by simp⟩
                · rw [e] at e'
                  simp only [Value.slice.injEq, Option.some.injEq, Addr.mk.injEq, and_true] at e'
                  obtain ⟨⟨rfl, rfl⟩, _, _⟩ := e'
                  exact hc
              exact ⟨g, 0, cap, by rw [hn]; exact e, by omega, h2, hc, fun _ => ⟨rfl, cur', hg', by rw [hsz', hsz, htt]⟩⟩
      · exact (h.rows r b' hb hl').keep (fun p o hf => spotN (.r r) (by simp [Con.hit, hh]) p o ⟨b', hb, hl', hf⟩) (crn r hr hh) le0
      · have hrow := hres.rows j b' hb1 hl'
        obtain ⟨xs, hat, hR⟩ := hrow.at_
        refine ⟨hrow.len, xs, ?_, rpl (rsOK j b' hb1).2 hR⟩
        rw [cr2 r hr, List.getD_eq_getElem?_getD, hj, Option.getD_some]
        exact hat
    · intro x b' hb' hl'
      have fromCall : ∀ j, qs[j]? = some b' → ObjOK fp.K c1.w c'.F b' (c1.ob j) (c1.fo j) := fun j hb1 => by
        have := hres.objs j b' hb1 hl'
        have e : c'.F = c1.F := by show (if k.lend then c.F else c1.F) = c1.F; rw [(qsOK j b' hb1).2]; rfl
        rw [e]; exact this
      rcases objsGet x b' hb' with ⟨hx, b, hb, ⟨j, hh, hb1⟩ | ⟨hh, rfl⟩⟩ | ⟨j, hx, hj, hb1⟩
      · rw [(coh x j hx hh).1, (coh x j hx hh).2]; exact fromCall j hb1
      · rw [(con x hx hh).1, (con x hx hh).2]
        refine (h.objs x b' hb hl').keep F1 (fun p o hp => ?_) hkeeps.size
        rcases hp with hp | hp
        · exact spotN (.o x) (by simp [Con.hit, hh]) p o ⟨b', hb, hl', hp⟩
        · exact le0.spot p o hp
      · rw [(co2 x hx).1, (co2 x hx).2, ← hj]; exact fromCall j hb1
    · intro q q' p o h1 h2
      rcases hff q p o h1 with ⟨f1, k1⟩ | ⟨q1, f1, l1, n1, m1, _⟩ <;> rcases hff q' p o h2 with ⟨f2, k2⟩ | ⟨q2, f2, l2, n2, m2, _⟩
      · exact h.disj _ _ p o f1 f2
      · exact (apart q _ p o f1 k1 f2 l2 n2).elim
      · exact (apart q' _ p o f2 k2 f1 l1 n1).elim
      · obtain rfl := hres.disj _ _ p o f1 f2
        rcases m1 with ⟨j, e1, e2, _⟩ | ⟨j, e1, e2, _⟩ | ⟨j, e1, e2, _⟩ <;> rcases m2 with ⟨j', e3, e4, _⟩ | ⟨j', e3, e4, _⟩ | ⟨j', e3, e4, _⟩ <;> rw [e1] at e3 <;> first | (injection e3 with e3; rw [e2, e4, e3]) | cases e3
    · intro q p o h1
      rcases hff q p o h1 with ⟨f1, k1⟩ | ⟨q1, f1, l1, n1, m1, eimg⟩
      · refine ⟨(h.mine q p o f1).1, fun hF' => ?_⟩
        rcases F2 p o hF' with z | z
        · exact (h.mine q p o f1).2 z
        · have := foot_lt h f1; omega
      · obtain ⟨n1, n2⟩ := hres.mine q1 p o f1
        refine ⟨?_, fun hF' => n2 (F3 p o hF')⟩
        rcases n1 with n1 | n1
        · exact .inl (Nat.le_trans h.keeps.size n1)
        · cases q with
          | v x =>
            obtain ⟨q2, n1⟩ := Base.own_some n1
            obtain ⟨q0, _, z⟩ := feetA q2 p o n1
            exact z.imp id fun z => Base.own_some z
          | o x =>
            obtain ⟨q2, n1⟩ := Base.own_some n1
            obtain ⟨q0, _, z⟩ := feetA q2 p o n1
            exact z.imp id fun z => Base.own_some z
          | r x =>
            have isr : ∃ j, q1 = .r j := by
              rcases m1 with ⟨j, _, e, _⟩ | ⟨j, e, _, _⟩ | ⟨j, _, e, _⟩
              · cases e
              · exact ⟨j, e⟩
              · cases e
            obtain ⟨j1, rfl⟩ := isr
            obtain ⟨q0, i0, z⟩ := feetA (.r j1) p o n1
            cases hro : k.ro with
            | false => rw [eimg hro _ q0 rfl i0]; exact z
            | true =>
              have hl1 := l1 hro
              have hlk : k.lk = ⟨k.vars.length, k.rows.length, 0, k.rows.length⟩ := by simp [Con.lk, hro]
              rw [hlk] at hl1
              cases i0 with
              | r x r hx _ => simp [LK.has] at hl1; omega
    · intro q p o h1 hq
      rcases hff q p o h1 with ⟨f1, k1⟩ | ⟨q1, f1, l1, n1, m1, _⟩
      · exact h.free q p o f1 hq
      · cases hro : k.ro with
        | true =>
          rcases hres.free q1 p o f1 (l1 hro) with z | z
          · exact .inl (Nat.le_trans h.keeps.size z)
          · have := z.1; rw [hro] at this; cases this
        | false =>
          rcases (hres.mine q1 p o f1).1.imp id Base.own_some with z | ⟨_, z⟩
          · exact .inl (Nat.le_trans h.keeps.size z)
          · exact (feetF p o ⟨hro, _, z⟩).1
    · intro p o hF'
      rcases F2 p o hF' with z | z
      · exact Nat.lt_of_lt_of_le (h.flt p o z) hkeeps.size
      · exact hres.flt p o (F3 p o hF')
    · intro x ad hx
      obtain ⟨q1, q2⟩ := h.ag x ad hx
      rw [h.nv] at q1
      exact ⟨by show x < s.vars.length + _; omega, by rw [cg x q1]; exact q2⟩
    · intro r v hv
      obtain ⟨q1, b, hb, hl, hf⟩ := h.ar r v hv
      have hr := (List.getElem?_eq_some_iff.1 hb).1
      have hget : (k.after s σ vs rs qs).rows[r]? = some (match k.hR σ r with | some j => (match rs[j]? with | some b' => ⟨b.live, b.fix, b.e, b'.t, b'.n, b'.l⟩ | none => b) | none => b) := by
        simp only [Con.after]
        rw [List.getElem?_append_left (by rw [mapI_length]; exact hr), mapI_get, hb]
        simp
      cases hh : k.hR σ r with
      | none =>
        rw [hh] at hget
        exact ⟨(crn r hr hh).trans q1, b, hget, hl, hf⟩
      | some j =>
        obtain ⟨_, p1, p2⟩ := Con.hR_some hh
        obtain ⟨b0, p0, hb0, _, hp0, _, hfx, _⟩ := srlt j r p1 p2
        rw [hb] at hb0
        obtain rfl := Option.some.inj hb0
        have hpf : p0.fix = true := by
          rcases hfx with e | e
          · exact e
          · rw [hf] at e; cases e
        rw [hh] at hget
        have hj := List.getElem?_eq_getElem (l := rs) (i := j) (by omega)
        simp only [hj] at hget
        exact ⟨(crh r j hr hh).trans ((agr j r p0 hp0 hpf p2).trans q1), _, hget, hl, hf⟩
    · intro x v hv
      obtain ⟨q1, b, hb, hl, hst'⟩ := h.ao x v hv
      have hx := (List.getElem?_eq_some_iff.1 hb).1
      have hget : (k.after s σ vs rs qs).objs[x]? = some (match k.hO σ x with | some j => (match qs[j]? with | some b' => b' | none => b) | none => b) := by
        simp only [Con.after]
        rw [List.getElem?_append_left (by rw [mapI_length]; exact hx), mapI_get, hb]
        simp
      cases hh : k.hO σ x with
      | none =>
        rw [hh] at hget
        exact ⟨(con x hx hh).1.trans q1, b, hget, hl, hst'⟩
      | some j =>
        obtain ⟨_, p1, p2⟩ := Con.hO_some hh
        obtain ⟨b0, hb0, _, hb0'⟩ := solt j p1
        rw [p2, hb] at hb0
        obtain rfl := Option.some.inj hb0
        obtain ⟨p', hp', hk', _⟩ := OP.mks_get hb0'
        rw [hh] at hget
        have hj := List.getElem?_eq_getElem (l := qs) (i := j) (by omega)
        simp only [hj] at hget
        have hps : p'.1.still = true := by rw [← hk']; exact hst'
        refine ⟨(coh x j hx hh).1.trans ((ago j p' hp' hps).trans (by rw [p2]; exact q1)), _, hget, (qsOK j _ hj).1, ?_⟩
        obtain ⟨_, b3, hb3, hl3, hst3⟩ := hres.ao j (c1.ob j) (by
          have hb4 := hb0'
          simp only [baseOf, List.getElem?_map]
          rw [List.getElem?_range (by rw [hnb]; exact p1)]
          simp only [Option.map_some, hb4, hl, hk', hps, Bool.and_self, if_true]
          rw [ago j p' hp' hps]
          simp [Con.lendC, C.lend, C.ren])
        rw [hj] at hb3
        obtain rfl := Option.some.inj hb3
        exact hst3
  · -- places that the call does not touch
    rcases hk with hk | ⟨q, hq, hk⟩
    · exact le0.spot p o hk
    · exact spotN q (hl q hq) p o hk
  · rcases hk with hk | ⟨q, hq, hk⟩
    · exact .inl (F1 p o hk)
    · refine .inr ⟨q, hq, ?_⟩
      have hnh := hl q hq
      cases q with
      | v x =>
        obtain ⟨b, hb, hlv, hk⟩ := hk
        have hx := (List.getElem?_eq_some_iff.1 hb).1
        have hh : k.hV σ x = none := by simpa [Con.hit] using hnh
        refine ⟨⟨b.live, b.ct.cut (movR σ k.rows) (movO σ k.objs)⟩, ?_, hlv, ?_⟩
        · simp only [Con.after]
          rw [List.getElem?_append_left (by rw [mapI_length]; exact hx), mapI_get, hb]
          simp [hh]
        · simp only [Ctn.cut_size]
          unfold varF at hk ⊢
          rw [cg x hx]; exact hk
      | r x =>
        obtain ⟨b, hb, hlv, hk⟩ := hk
        have hx := (List.getElem?_eq_some_iff.1 hb).1
        have hh : k.hR σ x = none := by simpa [Con.hit] using hnh
        refine ⟨b, ?_, hlv, by rw [crn x hx hh]; exact hk⟩
        simp only [Con.after]
        rw [List.getElem?_append_left (by rw [mapI_length]; exact hx), mapI_get, hb]
        simp [hh]
      | o x =>
        obtain ⟨b, hb, hlv, hk⟩ := hk
        have hx := (List.getElem?_eq_some_iff.1 hb).1
        have hh : k.hO σ x = none := by simpa [Con.hit] using hnh
        refine ⟨b, ?_, hlv, by rw [(con x hx hh).2]; exact hk⟩
        simp only [Con.after]
        rw [List.getElem?_append_left (by rw [mapI_length]; exact hx), mapI_get, hb]
        simp [hh]
end
end Go.Fx
