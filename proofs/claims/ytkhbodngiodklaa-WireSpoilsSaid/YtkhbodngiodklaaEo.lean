/- Calls, by their contracts: what is known behind them. -/
import Derived.Test.YtkhbodngiodklaaEn
set_option linter.all false
namespace Go.Ex
open Go Go.RowKit

mutual
def renV (mv mr : Nat → Nat) : V → V
  | .lp k o => .lp (mv k) o
  | .own k => .own (mr k)
  | .vw k sz lo n => .vw (mr k) sz lo n
  | .op k sz i j => .op (mr k) sz i j
  | .agg l => .agg (renVs mv mr l)
  | .tup l => .tup (renVs mv mr l)
  | .fn f l => .fn f (renVs mv mr l)
  | .i k n => .i k n
  | .b x => .b x
  | .v v => .v v
  | .x t e => .x t e
  | .ro t n l => .ro t n l
  | .rp t l i j => .rp t l i j
  | .junk => .junk
def renVs (mv mr : Nat → Nat) : List V → List V
  | [] => []
  | v :: vs => renV mv mr v :: renVs mv mr vs
end
mutual
/-- It leads to nothing but its own roots. -/
def okV (nv nr : Nat) : V → Bool
  | .lp k _ => decide (k < nv)
  | .own k => decide (k < nr)
  | .vw k _ _ _ => decide (k < nr)
  | .op k _ _ _ => decide (k < nr)
  | .agg l => okVs nv nr l
  | .tup l => okVs nv nr l
  | .fn _ l => okVs nv nr l
  | .i _ _ => true
  | .b _ => true
  | .v _ => true
  | .x t _ => t.flat
  | .ro _ _ _ => false
  | .rp _ _ _ _ => false
  | .junk => true
def okVs (nv nr : Nat) : List V → Bool
  | [] => true
  | v :: vs => okV nv nr v && okVs nv nr vs
end
mutual
/-- What leads to some rows is known no more. -/
def cutV (p : Nat → Bool) : V → V
  | .own r => if p r then .junk else .own r
  | .vw r sz lo n => if p r then .junk else .vw r sz lo n
  | .op r sz i j => if p r then .junk else .op r sz i j
  | .agg l => .agg (cutVs p l)
  | .tup l => .tup (cutVs p l)
  | .fn f l => .fn f (cutVs p l)
  | .i k n => .i k n
  | .b x => .b x
  | .v v => .v v
  | .x t e => .x t e
  | .lp x o => .lp x o
  | .ro t n l => .ro t n l
  | .rp t l i j => .rp t l i j
  | .junk => .junk
def cutVs (p : Nat → Bool) : List V → List V
  | [] => []
  | v :: vs => cutV p v :: cutVs p vs
end
def Ctn.ren (mv mr : Nat → Nat) : Ctn → Ctn
  | .pk t e => .pk t e
  | .ls l => .ls (renVs mv mr l)
def Ctn.okB (nv nr : Nat) : Ctn → Bool
  | .pk t _ => t.flat
  | .ls l => okVs nv nr l
def Ctn.cut (p : Nat → Bool) : Ctn → Ctn
  | .pk t e => .pk t e
  | .ls l => .ls (cutVs p l)
def mapI {α β : Type} (f : Nat → α → β) : Nat → List α → List β
  | _, [] => []
  | n, x :: l => f n x :: mapI f (n + 1) l
theorem mapI_get {α β : Type} {f : Nat → α → β} : ∀ {l : List α} {n i : Nat}, (mapI f n l)[i]? = (l[i]?).map (f (n + i))
  | [], n, i => by simp [mapI]
  | x :: l, n, 0 => by simp [mapI]
  | x :: l, n, i + 1 => by
    simp only [mapI, List.getElem?_cons_succ, mapI_get (l := l)]
    rw [show n + 1 + i = n + (i + 1) from by omega]
theorem mapI_length {α β : Type} {f : Nat → α → β} : ∀ {l : List α} {n : Nat}, (mapI f n l).length = l.length
  | [], n => rfl
  | x :: l, n => by simp [mapI, mapI_length (l := l)]
def frs (σ : Sg) (nrk n : Nat) : List Nat := (List.range n).filter fun k => decide (nrk ≤ k) || (σ.sr k).isNone
def mvF (σ : Sg) (nvk nv0 k : Nat) : Nat := if k < nvk then σ.sv k else nv0 + (k - nvk)
def mrF (σ : Sg) (nrk nr0 : Nat) (F : List Nat) (k : Nat) : Nat := match (if k < nrk then σ.sr k else none) with | some r => r | none => nr0 + F.idxOf k
def hitV (σ : Sg) (nvk x : Nat) : Option Nat := (List.range nvk).find? fun k => σ.sv k == x
def hitR (σ : Sg) (nrk r : Nat) : Option Nat := (List.range nrk).find? fun k => σ.sr k == some r
/-- Is it a row that the call may have laid elsewhere? -/
def movR (σ : Sg) (ps : List RP) (r : Nat) : Bool := (List.range ps.length).any fun k => σ.sr k == some r && !((ps[k]?).any RP.fix)
def Con.leave (k : Con) (vs : List Var) (rs : List Row) (ret : V) : Bool :=
  decide (k.vars.length ≤ vs.length) && decide (k.rows.length ≤ rs.length) && vs.all (fun b => b.live && b.ct.okB vs.length rs.length) && rs.all (fun b => b.live && b.t.flat) && okV vs.length rs.length ret &&
    ((List.range k.rows.length).all fun j => match rs[j]?, k.rows[j]? with | some b, some p => b.fix == p.fix && b.e == p.e && b.t.eq p.t | _, _ => false) && (rs.drop k.rows.length).all fun b => !b.fix
def Con.after (k : Con) (s : S) (σ : Sg) (vs : List Var) (rs : List Row) : S :=
  let F := frs σ k.rows.length rs.length
  let mv := mvF σ k.vars.length s.vars.length
  let mr := mrF σ k.rows.length s.rows.length F
  let p := movR σ k.rows
  { s with
    tmps := cutVs p s.tmps
    vars := mapI (fun x b => match hitV σ k.vars.length x with
      | some j => match vs[j]? with
        | some b' => ⟨true, b'.ct.ren mv mr⟩
        | none => b
      | none => ⟨b.live, b.ct.cut p⟩) 0 s.vars ++ (vs.drop k.vars.length).map fun b => ⟨true, b.ct.ren mv mr⟩
    rows := mapI (fun r b => match hitR σ k.rows.length r with
      | some j => match rs[j]? with
        | some b' => ⟨b.live, b.fix, b.e, b'.t, b'.n, b'.l⟩
        | none => b
      | none => b) 0 s.rows ++ F.filterMap fun j => rs[j]? }

mutual
theorem RV.cut {c c' : C} (h0 : c.Le0 c') {p : Nat → Bool} (hg : ∀ x, x < c.nv → c'.g x = c.g x) (hnv : c.nv ≤ c'.nv) (hr : ∀ x, x < c.nr → p x = false → c'.r x = c.r x) (hn : c.nr ≤ c'.nr) : ∀ (v : V) (u : Value), RV c v u → RV c' (cutV p v) u
  | .i k n, u, h | .b x, u, h | .v v, u, h => by simpa only [cutV, RV] using h
  | .x t e, u, h => by simp only [cutV, RV] at h ⊢; obtain ⟨us, e, hq⟩ := h; exact ⟨us, e, hq.le h0⟩
  | .lp x o, u, h => by simp only [cutV, RV] at h ⊢; exact ⟨Nat.lt_of_lt_of_le h.1 hnv, by rw [hg x h.1]; exact h.2⟩
  | .ro t n l, u, h => by simp only [cutV, RV] at h ⊢; exact ⟨h.1, h.2.le h0⟩
  | .rp t l i j, u, h => by
    simp only [cutV, RV] at h ⊢
    obtain ⟨p0, p1, g, o, vs, e, hs, hl⟩ := h
    exact ⟨p0, p1, g, o, vs, e, hs.le h0, hl.le h0⟩
  | .own r, u, h | .vw r _ _ _, u, h | .op r _ _ _, u, h => by
    simp only [cutV]
    cases hp : p r with
    | true => simp [RV]
    | false =>
      simp only [Bool.false_eq_true, if_false, RV] at h ⊢
      rw [hr r h.1 hp]
      exact ⟨Nat.lt_of_lt_of_le h.1 hn, h.2⟩
  | .fn _ l, u, h | .agg l, u, h | .tup l, u, h => by
    simp only [cutV, RV] at h ⊢
    obtain ⟨us, e, hq⟩ := h
    exact ⟨us, e, RVs.cut h0 hg hnv hr hn l _ hq⟩
  | .junk, u, h => by simp [cutV, RV]
theorem RVs.cut {c c' : C} (h0 : c.Le0 c') {p : Nat → Bool} (hg : ∀ x, x < c.nv → c'.g x = c.g x) (hnv : c.nv ≤ c'.nv) (hr : ∀ x, x < c.nr → p x = false → c'.r x = c.r x) (hn : c.nr ≤ c'.nr) : ∀ (vs : List V) (us : List Value), RVs c vs us → RVs c' (cutVs p vs) us
  | [], us, h => by simpa [cutVs, RVs] using h
  | v :: vs, us, h => by
    simp only [cutVs, RVs] at h ⊢
    obtain ⟨u, us', e, h1, h2⟩ := h
    exact ⟨u, us', e, RV.cut h0 hg hnv hr hn v u h1, RVs.cut h0 hg hnv hr hn vs us' h2⟩
end
mutual
theorem RV.ren {c c' : C} {mv mr : Nat → Nat} {nv nr : Nat} (hg : ∀ k, k < nv → mv k < c'.nv ∧ c'.g (mv k) = c.g k) (hr : ∀ k, k < nr → mr k < c'.nr ∧ c'.r (mr k) = c.r k) : ∀ (v : V) (u : Value), okV nv nr v = true → RV c v u → RV c' (renV mv mr v) u
  | .i k n, u, _, h | .b x, u, _, h | .v v, u, _, h => by simpa only [renV, RV] using h
  | .x t e, u, ho, h => by simp only [renV, RV, okV] at h ho ⊢; obtain ⟨us, e, hq⟩ := h; exact ⟨us, e, hq.flat ho⟩
  | .lp k o, u, ho, h => by
    simp only [renV, RV, okV, decide_eq_true_eq] at h ho ⊢
    rw [(hg k ho).2]
    exact ⟨(hg k ho).1, h.2⟩
  | .own k, u, ho, h | .vw k _ _ _, u, ho, h | .op k _ _ _, u, ho, h => by
    simp only [renV, RV, okV, decide_eq_true_eq] at h ho ⊢
    rw [(hr k ho).2]
    exact ⟨(hr k ho).1, h.2⟩
  | .ro t n l, u, ho, h => by simp [okV] at ho
  | .rp t l i j, u, ho, h => by simp [okV] at ho
  | .fn _ l, u, ho, h | .agg l, u, ho, h | .tup l, u, ho, h => by
    simp only [renV, RV, okV] at h ho ⊢
    obtain ⟨us, e, hq⟩ := h
    exact ⟨us, e, RVs.ren hg hr l _ ho hq⟩
  | .junk, u, _, h => by simp [renV, RV]
theorem RVs.ren {c c' : C} {mv mr : Nat → Nat} {nv nr : Nat} (hg : ∀ k, k < nv → mv k < c'.nv ∧ c'.g (mv k) = c.g k) (hr : ∀ k, k < nr → mr k < c'.nr ∧ c'.r (mr k) = c.r k) : ∀ (vs : List V) (us : List Value), okVs nv nr vs = true → RVs c vs us → RVs c' (renVs mv mr vs) us
  | [], us, _, h => by simpa [renVs, RVs] using h
  | v :: vs, us, ho, h => by
    simp only [renVs, RVs, okVs, Bool.and_eq_true] at h ho ⊢
    obtain ⟨u, us', e, h1, h2⟩ := h
    exact ⟨u, us', e, RV.ren hg hr v u ho.1 h1, RVs.ren hg hr vs us' ho.2 h2⟩
end
theorem cutVs_length (p : Nat → Bool) : ∀ l : List V, (cutVs p l).length = l.length
  | [] => rfl
  | _ :: l => by simp [cutVs, cutVs_length p l]
theorem renVs_length (mv mr : Nat → Nat) : ∀ l : List V, (renVs mv mr l).length = l.length
  | [] => rfl
  | _ :: l => by simp [renVs, renVs_length mv mr l]
theorem Ctn.cut_size (p : Nat → Bool) (ct : Ctn) : (ct.cut p).size = ct.size := by cases ct <;> simp [Ctn.cut, Ctn.size, cutVs_length]
theorem Ctn.ren_size (mv mr : Nat → Nat) (ct : Ctn) : (ct.ren mv mr).size = ct.size := by cases ct <;> simp [Ctn.ren, Ctn.size, renVs_length]
theorem hitV_some {σ : Sg} {nvk x j : Nat} (h : hitV σ nvk x = some j) : j < nvk ∧ σ.sv j = x := by
  have h1 := List.mem_of_find?_eq_some h
  have h2 := List.find?_some h
  exact ⟨by simpa using h1, by simpa using h2⟩
theorem hitV_none {σ : Sg} {nvk x j : Nat} (h : hitV σ nvk x = none) (hj : j < nvk) : σ.sv j ≠ x := by
  have := List.find?_eq_none.1 h j (by simpa using hj)
  simpa using this
theorem hitR_some {σ : Sg} {nrk r j : Nat} (h : hitR σ nrk r = some j) : j < nrk ∧ σ.sr j = some r := by
  have h1 := List.mem_of_find?_eq_some h
  have h2 := List.find?_some h
  exact ⟨by simpa using h1, by simpa using h2⟩
theorem hitR_none {σ : Sg} {nrk r j : Nat} (h : hitR σ nrk r = none) (hj : j < nrk) : σ.sr j ≠ some r := by
  have := List.find?_eq_none.1 h j (by simpa using hj)
  simpa using this

theorem RP.mks_t : ∀ {ps : List RP} {l : List U} {r : Nat} {b : Row}, (RP.mks ps l)[r]? = some b → ∃ p, ps[r]? = some p ∧ b.t = p.t
  | [], l, r, b, h => by cases l <;> simp [RP.mks] at h
  | p :: ps, [], r, b, h => by simp [RP.mks] at h
  | p :: ps, u :: l, 0, b, h => by simp [RP.mks] at h; subst h; exact ⟨p, rfl, rfl⟩
  | p :: ps, u :: l, r + 1, b, h => by simpa using RP.mks_t (ps := ps) (l := l) (r := r) (b := b) (by simpa [RP.mks] using h)
theorem Con.st_row {k : Con} {us : List U} {r : Nat} {b : Row} (h : (k.st us).rows[r]? = some b) : True ∧ ∃ p, k.rows[r]? = some p ∧ b.t = p.t := ⟨trivial, RP.mks_t h⟩
section
variable {P : Program} {T : TypeId → TI} {w0 : World} {fp : Base} {c : C} {s t : S} {a a' : Act} {f : FuncId} {R : Ending → World → Prop}

theorem Con.after_sound {k : Con} {args : List V} {us : List U} (h : Holds w0 fp c s a) (he : k.enter s args = some us) (ws : List Value) (hws : RVs c args ws) {vs : List Var} {rs : List Row} {ret : V} (hleave : k.leave vs rs ret = true)
    {c1 : C} {u : Value} (hres : Holds c.w (baseOf (c.lend s (k.sg s args) k.vars.length k.rows.length) (k.st us)) c1 ⟨[], vs, rs, []⟩ ⟨#[], []⟩) (hret : RV c1 ret u) :
    ∃ c' : C, c'.w = c1.w ∧ Holds w0 fp c' (k.after s (k.sg s args) vs rs) a ∧ RV c' (renV (mvF (k.sg s args) k.vars.length s.vars.length) (mrF (k.sg s args) k.rows.length s.rows.length (frs (k.sg s args) k.rows.length rs.length)) ret) u := by
  obtain ⟨_, hok, hnv, hnr, hst, _, hvlt, hfoot, hrows⟩ := Con.enter_sound h he ws hws
  generalize k.sg s args = σ at *
  generalize hF : frs σ k.rows.length rs.length = F
  generalize hmv : mvF σ k.vars.length s.vars.length = mv
  generalize hmr : mrF σ k.rows.length s.rows.length F = mr
  simp only [Con.leave, Bool.and_eq_true, decide_eq_true_eq] at hleave
  obtain ⟨⟨⟨⟨⟨⟨lv1, lv2⟩, lv3⟩, lv4⟩, lv5⟩, lv6⟩, lv7⟩ := hleave
  have hc1nv : c1.nv = vs.length := hres.nv
  have hc1nr : c1.nr = rs.length := hres.nr
  -- the anchors
  have agv : ∀ j, j < k.vars.length → c1.g j = c.g (σ.sv j) := fun j hj => by
    have := hres.ag j (c.g (σ.sv j)) (by
      simp only [baseOf, List.getElem?_map]
      rw [List.getElem?_range (by rw [hnv]; exact hj)]
      rfl)
    exact this.2
  have agr : ∀ j r p, k.rows[j]? = some p → p.fix = true → σ.sr j = some r → c1.r j = c.r r := fun j r p hp hpf hs => by
    have hj : j < k.rows.length := (List.getElem?_eq_some_iff.1 hp).1
    have hb := List.getElem?_eq_getElem (l := (k.st us).rows) (i := j) (by rw [hnr]; exact hj)
    obtain ⟨p', hp', hl', hf', _⟩ := hrows j _ hb
    rw [hp] at hp'
    obtain rfl := Option.some.inj hp'
    have := hres.ar j (c.r r) (by
      simp only [baseOf, List.getElem?_map]
      rw [List.getElem?_range (by rw [hnr]; exact hj)]
      simp only [Option.map_some, hb, hl', hf', hpf, Bool.and_self, if_true]
      simp [C.lend, C.ren, hs])
    exact this.1
  have rsj : ∀ j, j < k.rows.length → ∃ b p, rs[j]? = some b ∧ k.rows[j]? = some p ∧ b.fix = p.fix ∧ b.e = p.e ∧ b.t.eq p.t = true := fun j hj => by
    have := List.all_eq_true.1 lv6 j (by simpa using hj)
    split at this
    · rename_i b p hb hp
      simp only [Bool.and_eq_true, beq_iff_eq] at this
      exact ⟨b, p, hb, hp, this.1.1, this.1.2, this.2⟩
    · cases this
  have srlt : ∀ j r, j < k.rows.length → σ.sr j = some r → ∃ b p, s.rows[r]? = some b ∧ b.live = true ∧ k.rows[j]? = some p ∧ b.e = p.e ∧ (p.fix = true ∨ b.fix = false) ∧ b.t.eq p.t = true := fun j r hj hs => by
    have hb := List.getElem?_eq_getElem (l := (k.st us).rows) (i := j) (by rw [hnr]; exact hj)
    obtain ⟨p, hp, _, _, hcase⟩ := hrows j _ hb
    rcases hcase with ⟨r', b, hs', hb', hl, he, hfx, ht⟩ | ⟨hs', _⟩
    · rw [hs] at hs'
      obtain rfl := Option.some.inj hs'
      exact ⟨b, p, hb', hl, hp, he, hfx, ht⟩
    · rw [hs] at hs'; cases hs'
  have hitRj : ∀ j r, j < k.rows.length → σ.sr j = some r → hitR σ k.rows.length r = some j := fun j r hj hs => by
    cases hh : hitR σ k.rows.length r with
    | none => exact absurd hs (hitR_none hh hj)
    | some j' =>
      obtain ⟨q1, q2⟩ := hitR_some hh
      rw [Sg.sr_inj hok q1 hj q2 hs]
  have hitVj : ∀ j, j < k.vars.length → hitV σ k.vars.length (σ.sv j) = some j := fun j hj => by
    cases hh : hitV σ k.vars.length (σ.sv j) with
    | none => exact absurd rfl (hitV_none hh hj)
    | some j' =>
      obtain ⟨q1, q2⟩ := hitV_some hh
      rw [Sg.sv_inj hok q1 hj q2]
  have memF : ∀ j, j ∈ F ↔ j < rs.length ∧ (k.rows.length ≤ j ∨ σ.sr j = none) := fun j => by
    rw [← hF]
    simp [frs, Option.isNone_iff_eq_none]
  -- where everything lies
  let c' : C := { w := c1.w, F := c.F, g := fun x => if x < s.vars.length then c.g x else c1.g (k.vars.length + (x - s.vars.length)), r := fun r => if r < s.rows.length then (match hitR σ k.rows.length r with | some j => c1.r j | none => c.r r) else c1.r (F.getD (r - s.rows.length) 0), nv := s.vars.length + (vs.length - k.vars.length), nr := s.rows.length + F.length }
  have cg : ∀ x, x < s.vars.length → c'.g x = c.g x := fun x hx => if_pos hx
  have cg2 : ∀ x, ¬ x < s.vars.length → c'.g x = c1.g (k.vars.length + (x - s.vars.length)) := fun x hx => if_neg hx
  have crh : ∀ r j, r < s.rows.length → hitR σ k.rows.length r = some j → c'.r r = c1.r j := fun r j hr hj => by
    show (if r < s.rows.length then (match hitR σ k.rows.length r with | some j => c1.r j | none => c.r r) else _) = _
    rw [if_pos hr, hj]
  have crn : ∀ r, r < s.rows.length → hitR σ k.rows.length r = none → c'.r r = c.r r := fun r hr hj => by
    show (if r < s.rows.length then (match hitR σ k.rows.length r with | some j => c1.r j | none => c.r r) else _) = _
    rw [if_pos hr, hj]
  have cr2 : ∀ r, ¬ r < s.rows.length → c'.r r = c1.r (F.getD (r - s.rows.length) 0) := fun r hr => if_neg hr
  have hG : ∀ j, j < vs.length → mv j < c'.nv ∧ c'.g (mv j) = c1.g j := fun j hj => by
    rw [← hmv]
    unfold mvF
    split
    · rename_i hk
      have := hvlt j hk
      exact ⟨by show _ < s.vars.length + _; omega, by rw [cg _ this, agv j hk]⟩
    · rename_i hk
      exact ⟨by show s.vars.length + (j - k.vars.length) < s.vars.length + (vs.length - k.vars.length); omega, by rw [cg2 _ (by omega), show k.vars.length + (s.vars.length + (j - k.vars.length) - s.vars.length) = j from by omega]⟩
  have hRr : ∀ j, j < rs.length → mr j < c'.nr ∧ c'.r (mr j) = c1.r j := fun j hj => by
    rw [← hmr]
    unfold mrF
    split
    · rename_i r hr
      split at hr
      · rename_i hk
        obtain ⟨b, p, hb, _⟩ := srlt j r hk hr
        have hlt := (List.getElem?_eq_some_iff.1 hb).1
        exact ⟨by show r < s.rows.length + _; omega, crh r j hlt (hitRj j r hk hr)⟩
      · cases hr
    · rename_i hr
      have hm : j ∈ F := (memF j).2 ⟨hj, by
        split at hr
        · exact .inr hr
        · rename_i hk; exact .inl (by omega)⟩
      have hi : F.idxOf j < F.length := List.idxOf_lt_length_iff.2 hm
      refine ⟨by show s.rows.length + F.idxOf j < s.rows.length + F.length; omega, ?_⟩
      rw [cr2 _ (by omega), Nat.add_sub_cancel_left]
      congr 1
      simp [List.getD_eq_getElem?_getD, List.getElem?_eq_getElem hi]
  have hren := RV.ren hG hRr
  have hrens := RVs.ren hG hRr
  have rect : ∀ (ct : Ctn) xs, ct.okB vs.length rs.length = true → RCt c1 ct xs → RCt c' (ct.ren mv mr) xs := fun ct xs ho hx => by
    cases ct with
    | pk t e => exact Rp.flat ho hx
    | ls l => exact hrens l xs ho hx
  -- what stays
  have hkeeps := hres.keeps
  have feetM : ∀ p o, (baseOf (c.lend s σ k.vars.length k.rows.length) (k.st us)).at_ p o → (∃ j, j < k.vars.length ∧ foot c s (.v (σ.sv j)) p o) ∨ (∃ j r, j < k.rows.length ∧ σ.sr j = some r ∧ foot c s (.r r) p o) := fun p o hf => by
    obtain ⟨q, hq⟩ := hf
    rcases hfoot q p o hq with ⟨x, _, hx, g⟩ | ⟨x, r, _, hx, hs, g⟩
    · exact .inl ⟨x, hx, g⟩
    · exact .inr ⟨x, r, hx, hs, g⟩
  have feetF : ∀ p o, (baseOf (c.lend s σ k.vars.length k.rows.length) (k.st us)).at_ p o → (w0.heap.size ≤ p ∨ fp.at_ p o) ∧ ¬ c.F p o := fun p o hf => by
    rcases feetM p o hf with ⟨j, _, g⟩ | ⟨j, r, _, _, g⟩
    · exact h.mine _ p o g
    · exact h.mine _ p o g
  have le0 : c.Le0 c' := ⟨fun _ _ h => h, fun p o hF => hkeeps.spot p o (h.flt p o hF) (fun hf => (feetF p o hf).2 hF)⟩
  have notV : ∀ x, hitV σ k.vars.length x = none → ∀ p o, foot c s (.v x) p o → ¬ (baseOf (c.lend s σ k.vars.length k.rows.length) (k.st us)).at_ p o := fun x hx p o hf hfe => by
    rcases feetM p o hfe with ⟨j, hj, g⟩ | ⟨j, r, _, _, g⟩
    · have e := h.disj _ _ p o hf g
      injection e with e
      exact hitV_none hx hj e.symm
    · have e := h.disj _ _ p o hf g; cases e
  have notR : ∀ r, hitR σ k.rows.length r = none → ∀ p o, foot c s (.r r) p o → ¬ (baseOf (c.lend s σ k.vars.length k.rows.length) (k.st us)).at_ p o := fun r hr p o hf hfe => by
    rcases feetM p o hfe with ⟨j, hj, g⟩ | ⟨j, r', hj, hs, g⟩
    · have e := h.disj _ _ p o hf g; cases e
    · have e := h.disj _ _ p o hf g
      injection e with e
      subst e
      exact hitR_none hr hj hs
  have same : ∀ r, r < c.nr → movR σ k.rows r = false → c'.r r = c.r r := fun r hr hm => by
    have hr' : r < s.rows.length := by rw [← h.nr]; exact hr
    cases hh : hitR σ k.rows.length r with
    | none => exact crn r hr' hh
    | some j =>
      obtain ⟨q1, q2⟩ := hitR_some hh
      obtain ⟨b, p, _, _, hp, _⟩ := srlt j r q1 q2
      rw [crh r j hr' hh]
      refine agr j r p hp ?_ q2
      have := List.any_eq_false.1 hm j (by simpa using q1)
      simpa [q2, hp] using this
  have kl := RVs.cut le0 (p := movR σ k.rows) (fun x hx => cg x (by rw [← h.nv]; exact hx)) (by show c.nv ≤ s.vars.length + _; rw [h.nv]; omega) same (by show c.nr ≤ s.rows.length + _; rw [h.nr]; omega)
  -- what is behind the call
  have varsGet : ∀ x b', (k.after s σ vs rs).vars[x]? = some b' → (x < s.vars.length ∧ ∃ b, s.vars[x]? = some b ∧ ((∃ j b1, hitV σ k.vars.length x = some j ∧ vs[j]? = some b1 ∧ b' = ⟨true, b1.ct.ren mv mr⟩) ∨ (hitV σ k.vars.length x = none ∧ b' = ⟨b.live, b.ct.cut (movR σ k.rows)⟩))) ∨
      (∃ j b1, ¬ x < s.vars.length ∧ j = k.vars.length + (x - s.vars.length) ∧ vs[j]? = some b1 ∧ b' = ⟨true, b1.ct.ren mv mr⟩) := fun x b' hb' => by
    simp only [Con.after, hF, hmv, hmr, List.getElem?_append, mapI_length, mapI_get] at hb'
    split at hb'
    · rename_i hx
      obtain ⟨b, hb, hb'⟩ := Option.map_eq_some_iff.1 hb'
      refine .inl ⟨hx, b, hb, ?_⟩
      rw [Nat.zero_add] at hb'
      cases hh : hitV σ k.vars.length x with
      | none => rw [hh] at hb'; exact .inr ⟨rfl, hb'.symm⟩
      | some j =>
        rw [hh] at hb'
        obtain ⟨q1, q2⟩ := hitV_some hh
        have hj := List.getElem?_eq_getElem (l := vs) (i := j) (by omega)
        simp only [hj] at hb'
        exact .inl ⟨j, _, rfl, hj, hb'.symm⟩
    · rename_i hx
      simp only [List.getElem?_map, List.getElem?_drop, Option.map_eq_some_iff] at hb'
      obtain ⟨b1, hb1, rfl⟩ := hb'
      exact .inr ⟨_, b1, hx, rfl, hb1, rfl⟩
  have rowsGet : ∀ r b', (k.after s σ vs rs).rows[r]? = some b' → (r < s.rows.length ∧ ∃ b, s.rows[r]? = some b ∧ ((∃ j b1, hitR σ k.rows.length r = some j ∧ rs[j]? = some b1 ∧ b' = ⟨b.live, b.fix, b.e, b1.t, b1.n, b1.l⟩) ∨ (hitR σ k.rows.length r = none ∧ b' = b))) ∨
      (¬ r < s.rows.length ∧ ∃ j, F[r - s.rows.length]? = some j ∧ rs[j]? = some b') := fun r b' hb' => by
    simp only [Con.after, hF, hmv, hmr, List.getElem?_append, mapI_length, mapI_get] at hb'
    split at hb'
    · rename_i hr
      obtain ⟨b, hb, hb'⟩ := Option.map_eq_some_iff.1 hb'
      refine .inl ⟨hr, b, hb, ?_⟩
      rw [Nat.zero_add] at hb'
      cases hh : hitR σ k.rows.length r with
      | none => rw [hh] at hb'; exact .inr ⟨rfl, hb'.symm⟩
      | some j =>
        rw [hh] at hb'
        obtain ⟨q1, q2⟩ := hitR_some hh
        have hj := List.getElem?_eq_getElem (l := rs) (i := j) (by omega)
        simp only [hj] at hb'
        exact .inl ⟨j, _, rfl, hj, hb'.symm⟩
    · rename_i hr
      refine .inr ⟨hr, ?_⟩
      have fm : ∀ (L : List Nat) (i : Nat) (y : Row), (∀ j ∈ L, j < rs.length) → (L.filterMap fun j => rs[j]?)[i]? = some y → ∃ j, L[i]? = some j ∧ rs[j]? = some y := by
        intro L
        induction L with
        | nil => intro i y _ hy; simp at hy
        | cons z L ih =>
          intro i y hL hy
          have hz := List.getElem?_eq_getElem (l := rs) (i := z) (hL z (by simp))
          rw [List.filterMap_cons, hz] at hy
          cases i with
          | zero => simp at hy; subst hy; exact ⟨z, rfl, hz⟩
          | succ i => simpa using ih i y (fun j hj => hL j (by simp [hj])) (by simpa using hy)
      exact fm F _ b' (fun j hj => ((memF j).1 hj).1) hb'
  have vsOK : ∀ (j : Nat) (b1 : Var), vs[j]? = some b1 → b1.live = true ∧ b1.ct.okB vs.length rs.length = true := fun j b1 hb => by
    have := List.all_eq_true.1 lv3 b1 (List.mem_of_getElem? hb)
    simpa using this
  have rsOK : ∀ (j : Nat) (b1 : Row), rs[j]? = some b1 → b1.live = true ∧ b1.t.flat = true := fun j b1 hb => by
    have := List.all_eq_true.1 lv4 b1 (List.mem_of_getElem? hb)
    simpa using this
  have freshFix : ∀ (j : Nat) (b1 : Row), j ∈ F → rs[j]? = some b1 → b1.fix = false := fun j b1 hj hb => by
    obtain ⟨q1, q2⟩ := (memF j).1 hj
    by_cases hk : j < k.rows.length
    · have hb0 := List.getElem?_eq_getElem (l := (k.st us).rows) (i := j) (by rw [hnr]; exact hk)
      obtain ⟨p, hp, _, _, hcase⟩ := hrows j _ hb0
      obtain ⟨b2, p2, hb2, hp2, hf2, _⟩ := rsj j hk
      rw [hb] at hb2
      obtain rfl := Option.some.inj hb2
      rw [hp] at hp2
      obtain rfl := Option.some.inj hp2
      rcases hcase with ⟨r', b, hs', _⟩ | ⟨_, hpf⟩
      · rcases q2 with q2 | q2
        · omega
        · rw [hs'] at q2; cases q2
      · rw [hf2]; exact hpf
    · have := List.all_eq_true.1 lv7 b1 (List.mem_of_getElem? (i := j - k.rows.length) (by rw [List.getElem?_drop, show k.rows.length + (j - k.rows.length) = j from by omega]; exact hb))
      simpa using this
  -- the footprints: those of old, and those of the call
  have hff : ∀ q p o, foot c' (k.after s σ vs rs) q p o →
      (foot c s q p o ∧ ((∃ x, q = .v x ∧ hitV σ k.vars.length x = none) ∨ (∃ r, q = .r r ∧ hitR σ k.rows.length r = none) ∨ ∃ r j p', q = .r r ∧ j < k.rows.length ∧ σ.sr j = some r ∧ k.rows[j]? = some p' ∧ p'.fix = true)) ∨
      (∃ j x, q = .v x ∧ foot c1 ⟨[], vs, rs, []⟩ (.v j) p o ∧ mv j = x ∧ j < vs.length) ∨
      (∃ j r b1, q = .r r ∧ foot c1 ⟨[], vs, rs, []⟩ (.r j) p o ∧ mr j = r ∧ rs[j]? = some b1 ∧ b1.fix = false) := by
    intro q p o hq
    cases q with
    | v x =>
      obtain ⟨b', hb', hl', hk⟩ := hq
      rcases varsGet x b' hb' with ⟨hx, b, hb, ⟨j, b1, hh, hb1, rfl⟩ | ⟨hh, rfl⟩⟩ | ⟨j, b1, hx, hj, hb1, rfl⟩
      · obtain ⟨q1, q2⟩ := hitV_some hh
        have hjl := (List.getElem?_eq_some_iff.1 hb1).1
        have hmj : mv j = x := by rw [← hmv]; unfold mvF; rw [if_pos q1, q2]
        refine .inr (.inl ⟨j, x, rfl, ⟨b1, hb1, (vsOK j b1 hb1).1, ?_⟩, hmj, hjl⟩)
        simp only [Ctn.ren_size] at hk
        unfold varF at hk ⊢
        rw [← (hG j hjl).2, hmj]
        exact hk
      · refine .inl ⟨⟨b, hb, hl', ?_⟩, .inl ⟨x, rfl, hh⟩⟩
        simp only [Ctn.cut_size] at hk
        unfold varF at hk ⊢
        rw [← cg x hx]
        exact hk
      · have hjl := (List.getElem?_eq_some_iff.1 hb1).1
        have hmj : mv j = x := by rw [← hmv]; unfold mvF; rw [if_neg (by omega)]; omega
        refine .inr (.inl ⟨j, x, rfl, ⟨b1, hb1, (vsOK j b1 hb1).1, ?_⟩, hmj, hjl⟩)
        simp only [Ctn.ren_size] at hk
        unfold varF at hk ⊢
        rw [← (hG j hjl).2, hmj]
        exact hk
    | r r =>
      obtain ⟨b', hb', hl', hk⟩ := hq
      rcases rowsGet r b' hb' with ⟨hr, b, hb, ⟨j, b1, hh, hb1, rfl⟩ | ⟨hh, rfl⟩⟩ | ⟨hr, j, hj, hb1⟩
      · obtain ⟨q1, q2⟩ := hitR_some hh
        obtain ⟨b0, p0, hb0, hl0, hp0, he0, hfx, ht0⟩ := srlt j r q1 q2
        rw [hb] at hb0
        obtain rfl := Option.some.inj hb0
        obtain ⟨b2, p2, hb2, hp2, hf2, he2, ht2⟩ := rsj j q1
        rw [hb1] at hb2
        obtain rfl := Option.some.inj hb2
        rw [hp0] at hp2
        obtain rfl := Option.some.inj hp2
        have htt : b1.t.size = b.t.size := by rw [Tp.of_eq ht2, Tp.of_eq ht0]
        rw [crh r j hr hh] at hk
        simp only at hk
        cases hpf : p0.fix with
        | true =>
          rw [agr j r p0 hp0 hpf q2, htt] at hk
          exact .inl ⟨⟨b, hb, hl0, hk⟩, .inr (.inr ⟨r, j, p0, rfl, q1, q2, hp0, hpf⟩)⟩
        | false =>
          have hbf : b.fix = false := by
            rcases hfx with e | e
            · rw [hpf] at e; cases e
            · exact e
          have hb1f : b1.fix = false := by rw [hf2, hpf]
          rw [hbf] at hk
          have hmj : mr j = r := by rw [← hmr]; unfold mrF; rw [if_pos q1, q2]
          exact .inr (.inr ⟨j, r, b1, rfl, ⟨b1, hb1, (rsOK j b1 hb1).1, by rw [hb1f]; exact hk⟩, hmj, hb1, hb1f⟩)
      · rw [crn r hr hh] at hk
        exact .inl ⟨⟨b', hb, hl', hk⟩, .inr (.inl ⟨r, rfl, hh⟩)⟩
      · have hjF : j ∈ F := List.mem_of_getElem? hj
        have hjl := (List.getElem?_eq_some_iff.1 hb1).1
        rw [cr2 r hr, List.getD_eq_getElem?_getD, hj, Option.getD_some] at hk
        have hnd : F.Nodup := by rw [← hF]; exact List.Pairwise.filter _ List.nodup_range
        have hidx : F.idxOf j = r - s.rows.length := by
          have hlt := (List.getElem?_eq_some_iff.1 hj).1
          have hge := (List.getElem?_eq_some_iff.1 hj).2
          rw [← hge]
          exact List.Nodup.idxOf_getElem hnd _ hlt
        have hmj : mr j = r := by
          rw [← hmr]
          unfold mrF
          split
          · rename_i r' hr'
            exfalso
            obtain ⟨_, q2⟩ := (memF j).1 hjF
            split at hr'
            · rcases q2 with q2 | q2
              · omega
              · rw [q2] at hr'; cases hr'
            · cases hr'
          · rw [hidx]; omega
        exact .inr (.inr ⟨j, r, b', rfl, ⟨b', hb1, hl', hk⟩, hmj, hb1, freshFix j b' hjF hb1⟩)
  -- the two kinds do not meet
  have apart : ∀ q q1 p o, foot c s q p o → ((∃ x, q = .v x ∧ hitV σ k.vars.length x = none) ∨ (∃ r, q = .r r ∧ hitR σ k.rows.length r = none) ∨ ∃ r j p', q = .r r ∧ j < k.rows.length ∧ σ.sr j = some r ∧ k.rows[j]? = some p' ∧ p'.fix = true) →
      foot c1 ⟨[], vs, rs, []⟩ q1 p o → (∀ j b1, q1 = .r j → rs[j]? = some b1 → b1.fix = false) → False := fun q q1 p o hq hk h1 hnf => by
    rcases (hres.mine q1 p o h1).1 with hlt | hfe
    · have := foot_lt h hq; omega
    · rcases hk with ⟨x, rfl, hx⟩ | ⟨r, rfl, hr⟩ | ⟨r, j, p', rfl, hj, hs, hp, hpf⟩
      · exact notV x hx p o hq hfe
      · exact notR r hr p o hq hfe
      · obtain ⟨q2, hq2⟩ := hfe
        have hq2' := hq2
        rcases hfoot q2 p o hq2 with ⟨x, rfl, hx, g⟩ | ⟨x, r', rfl, hx, hs', g⟩
        · have e := h.disj _ _ p o hq g; cases e
        · have e := h.disj _ _ p o hq g
          injection e with e
          subst e
          obtain rfl := Sg.sr_inj hok hx hj hs' hs
          obtain ⟨b0, hb0, _, hk0⟩ := hq2'
          obtain ⟨p2, hp2, _, hf2, hcase⟩ := hrows x b0 hb0
          rw [hp] at hp2
          obtain rfl := Option.some.inj hp2
          obtain ⟨b1, p3, hb1, hp3, hf3, _, ht3⟩ := rsj x hx
          rw [hp] at hp3
          obtain rfl := Option.some.inj hp3
          have ht0 : b0.t.size = b1.t.size := by
            have hst0 := (Con.st_row (k := k) (us := us) hb0).2
            obtain ⟨p4, hp4, e4⟩ := hst0
            rw [hp] at hp4
            obtain rfl := Option.some.inj hp4
            rw [e4, Tp.of_eq ht3]
          have hc0 : (c.lend s σ k.vars.length k.rows.length).r x = c.r r := by simp [C.lend, C.ren, hs']
          have hin : foot c1 ⟨[], vs, rs, []⟩ (.r x) p o := ⟨b1, hb1, (rsOK x b1 hb1).1, by
            rw [agr x r p' hp hpf hs', hf3, ← ht0]
            rw [hc0, hf2] at hk0
            exact hk0⟩
          have e := hres.disj _ _ p o h1 hin
          have := hnf x b1 e hb1
          rw [hf3, hpf] at this
          cases this
  refine ⟨c', rfl, ?_, hren ret u lv5 hret⟩
  refine { keeps := ⟨hkeeps.os.trans h.keeps.os, hkeeps.tape.trans h.keeps.tape, hkeeps.output.trans h.keeps.output, Nat.le_trans h.keeps.size hkeeps.size, fun p o hlt hnf => ?_, fun p cs e f hp => ?_⟩, eF := h.eF, tmps := kl _ _ h.tmps, defers := h.defers, nv := ?_, nr := ?_, vars := ?_, rows := ?_, disj := ?_, mine := ?_, flt := fun p o hF' => Nat.lt_of_lt_of_le (h.flt p o hF') hkeeps.size, ag := ?_, ar := ?_ }
  · refine (hkeeps.spot p o (Nat.lt_of_lt_of_le hlt h.keeps.size) (fun hf => ?_)).trans (h.keeps.spot p o hlt hnf)
    rcases (feetF p o hf).1 with q | q
    · omega
    · exact hnf q
  · obtain ⟨c2, e1, e2⟩ := h.keeps.shape p cs e f hp
    obtain ⟨c3, e3, e4⟩ := hkeeps.shape p c2 e f e1
    exact ⟨c3, e3, e4.trans e2⟩
  · show s.vars.length + (vs.length - k.vars.length) = (k.after s σ vs rs).vars.length
    simp [Con.after, mapI_length]
  · show s.rows.length + F.length = (k.after s σ vs rs).rows.length
    have : ∀ L : List Nat, (∀ j ∈ L, j < rs.length) → (L.filterMap fun j => rs[j]?).length = L.length := by
      intro L
      induction L with
      | nil => intro _; rfl
      | cons z L ih =>
        intro hL
        rw [List.filterMap_cons, List.getElem?_eq_getElem (hL z (by simp))]
        simp [ih (fun j hj => hL j (by simp [hj]))]
    simp only [Con.after, hF, List.length_append, mapI_length]
    rw [this F (fun j hj => ((memF j).1 hj).1)]
  · intro x b' hb' hl'
    have fromCall : ∀ j b1, vs[j]? = some b1 → mv j = x → VarOK c' x ⟨true, b1.ct.ren mv mr⟩ := fun j b1 hb1 hmj => by
      have hvar := hres.vars j b1 hb1 (vsOK j b1 hb1).1
      obtain ⟨xs, hc, hu⟩ := hvar.at_
      have hjl := (List.getElem?_eq_some_iff.1 hb1).1
      refine ⟨by simp only [Ctn.ren_size]; exact hvar.pos, xs, ?_, rect _ xs (vsOK j b1 hb1).2 hu⟩
      rw [← hmj, (hG j hjl).2]
      exact hc
    rcases varsGet x b' hb' with ⟨hx, b, hb, ⟨j, b1, hh, hb1, rfl⟩ | ⟨hh, rfl⟩⟩ | ⟨j, b1, hx, hj, hb1, rfl⟩
    · obtain ⟨q1, q2⟩ := hitV_some hh
      exact fromCall j b1 hb1 (by rw [← hmv]; unfold mvF; rw [if_pos q1, q2])
    · refine (h.vars x b hb hl').keep (fun p o hf => hkeeps.spot p o (foot_lt h (q := .v x) ⟨b, hb, hl', hf⟩) (notV x hh p o ⟨b, hb, hl', hf⟩)) (cg x hx) (Ctn.cut_size _ _) (fun xs hxs => ?_)
      cases hct : b.ct with
      | pk t e => rw [hct] at hxs; exact Rp.le le0 hxs
      | ls l => rw [hct] at hxs; exact kl _ _ hxs
    · exact fromCall j b1 hb1 (by rw [← hmv]; unfold mvF; rw [if_neg (by omega)]; omega)
  · intro r b' hb' hl'
    rcases rowsGet r b' hb' with ⟨hr, b, hb, ⟨j, b1, hh, hb1, rfl⟩ | ⟨hh, rfl⟩⟩ | ⟨hr, j, hj, hb1⟩
    · obtain ⟨q1, q2⟩ := hitR_some hh
      obtain ⟨b0, p0, hb0, hl0, hp0, he0, hfx, ht0⟩ := srlt j r q1 q2
      rw [hb] at hb0
      obtain rfl := Option.some.inj hb0
      obtain ⟨b2, p2, hb2, hp2, hf2, he2, ht2⟩ := rsj j q1
      rw [hb1] at hb2
      obtain rfl := Option.some.inj hb2
      rw [hp0] at hp2
      obtain rfl := Option.some.inj hp2
      have htt : b1.t.size = b.t.size := by rw [Tp.of_eq ht2, Tp.of_eq ht0]
      have hrow := hres.rows j b1 hb1 (rsOK j b1 hb1).1
      obtain ⟨xs, hat, hR⟩ := hrow.at_
      refine ⟨hrow.len, xs, ?_, hR.mono fun x us hx => hx.flat (rsOK j b1 hb1).2⟩
      rw [crh r j hr hh]
      show RowAt c1.w b.fix b.e b1.t.size (c1.r j) b1.l.length xs
      cases hbf : b.fix with
      | true => exact hat.fixed
      | false =>
        cases hpf : p0.fix with
        | false =>
          have e1 : b1.fix = false := by rw [hf2, hpf]
          rw [e1, he2, ← he0] at hat
          exact hat
        | true =>
          have hv := agr j r p0 hp0 hpf q2
          obtain ⟨xs0, hat0, _⟩ := (h.rows r b hb hl0).at_
          rw [hbf] at hat0
          refine ⟨hat.len, ?_⟩
          rw [hv] at hat ⊢
          rcases hat0.at_ with ⟨e, _⟩ | ⟨e, _⟩ | ⟨g, o, cap, e, h1, h2, h3, h4⟩
          · left
            refine ⟨e, ?_⟩
            rcases hat.at_ with ⟨_, q⟩ | ⟨_, q, _⟩ | ⟨g, o, cap, e', _⟩
            · exact q
            · exact q
            · rw [e] at e'; cases e'
          · cases e
          · right; right
            obtain ⟨rfl, cur, hg, hsz⟩ := h4 rfl
            obtain ⟨cur', hg', hsz'⟩ := hkeeps.shape g cur _ _ hg
            have hn : b1.l.length = b.l.length := by
              rcases hat.at_ with ⟨q, _⟩ | ⟨_, q, A, cp, e', _⟩ | ⟨g', o', cap', e', _⟩
              · rw [e] at q; cases q
              · rw [e] at e'; simp only [Value.slice.injEq] at e'; omega
              · rw [e] at e'; simp only [Value.slice.injEq] at e'; omega
            have hc : Cells c1.w g 0 xs := by
              rcases hat.at_ with ⟨q, _⟩ | ⟨_, q, _⟩ | ⟨g', o', cap', e', _, _, hc, _⟩
              · rw [e] at q; cases q
              · have : xs = [] := List.eq_nil_of_length_eq_zero (by rw [hat.len, q]; simp)
                subst this
                exact ⟨cur', _, hg', by simp, by simp⟩
              · rw [e] at e'
                simp only [Value.slice.injEq, Option.some.injEq, Addr.mk.injEq, and_true] at e'
                obtain ⟨⟨rfl, rfl⟩, _, _⟩ := e'
                exact hc
            exact ⟨g, 0, cap, by rw [hn]; exact e, by omega, h2, hc, fun _ => ⟨rfl, cur', hg', by rw [hsz', hsz, htt]⟩⟩
    · refine (h.rows r b' hb hl').keep (fun p o hf => hkeeps.spot p o (foot_lt h (q := .r r) ⟨b', hb, hl', hf⟩) (notR r hh p o ⟨b', hb, hl', hf⟩)) (crn r hr hh) le0
    · have hrow := hres.rows j b' hb1 hl'
      obtain ⟨xs, hat, hR⟩ := hrow.at_
      refine ⟨hrow.len, xs, ?_, hR.mono fun x us hx => hx.flat (rsOK j b' hb1).2⟩
      rw [cr2 r hr, List.getD_eq_getElem?_getD, hj, Option.getD_some]
      exact hat
  · intro q q' p o h1 h2
    rcases hff q p o h1 with ⟨f1, k1⟩ | ⟨j, x, rfl, f1, m1, _⟩ | ⟨j, r, b1, rfl, f1, m1, hb1, nf1⟩ <;> rcases hff q' p o h2 with ⟨f2, k2⟩ | ⟨j', x', rfl, f2, m2, _⟩ | ⟨j', r', b2, rfl, f2, m2, hb2, nf2⟩
    · exact h.disj _ _ p o f1 f2
    · exact (apart q _ p o f1 k1 f2 (fun _ _ e _ => by cases e)).elim
    · exact (apart q _ p o f1 k1 f2 (fun z b e hz => by injection e with e; subst e; rw [hb2] at hz; obtain rfl := Option.some.inj hz; exact nf2)).elim
    · exact (apart q' _ p o f2 k2 f1 (fun _ _ e _ => by cases e)).elim
    · have e := hres.disj _ _ p o f1 f2
      injection e with e
      rw [← m1, ← m2, e]
    · have e := hres.disj _ _ p o f1 f2; cases e
    · exact (apart q' _ p o f2 k2 f1 (fun z b e hz => by injection e with e; subst e; rw [hb1] at hz; obtain rfl := Option.some.inj hz; exact nf1)).elim
    · have e := hres.disj _ _ p o f1 f2; cases e
    · have e := hres.disj _ _ p o f1 f2
      injection e with e
      rw [← m1, ← m2, e]
  · intro q p o h1
    have fromCall : ∀ q1, foot c1 ⟨[], vs, rs, []⟩ q1 p o → (w0.heap.size ≤ p ∨ fp.at_ p o) ∧ ¬ c'.F p o := fun q1 f1 => by
      obtain ⟨m1, m2⟩ := hres.mine q1 p o f1
      refine ⟨?_, fun hF' => m2 (by rw [hres.eF]; exact .inl hF')⟩
      rcases m1 with m1 | m1
      · exact .inl (Nat.le_trans h.keeps.size m1)
      · exact (feetF p o m1).1
    rcases hff q p o h1 with ⟨f1, k1⟩ | ⟨j, x, rfl, f1, m1, _⟩ | ⟨j, r, b1, rfl, f1, m1, hb1, nf1⟩
    · exact h.mine q p o f1
    · exact fromCall _ f1
    · exact fromCall _ f1
  · intro x ad hx
    obtain ⟨q1, q2⟩ := h.ag x ad hx
    rw [h.nv] at q1
    exact ⟨by show x < s.vars.length + _; omega, by rw [cg x q1]; exact q2⟩
  · intro r v hv
    obtain ⟨q1, b, hb, hl, hf⟩ := h.ar r v hv
    have hr := (List.getElem?_eq_some_iff.1 hb).1
    have hget : (k.after s σ vs rs).rows[r]? = some (match hitR σ k.rows.length r with | some j => (match rs[j]? with | some b' => ⟨b.live, b.fix, b.e, b'.t, b'.n, b'.l⟩ | none => b) | none => b) := by
      simp only [Con.after]
      rw [List.getElem?_append_left (by rw [mapI_length]; exact hr), mapI_get, hb]
      simp
    cases hh : hitR σ k.rows.length r with
    | none =>
      rw [hh] at hget
      exact ⟨(crn r hr hh).trans q1, b, hget, hl, hf⟩
    | some j =>
      obtain ⟨p1, p2⟩ := hitR_some hh
      obtain ⟨b0, p0, hb0, _, hp0, _, hfx, _⟩ := srlt j r p1 p2
      rw [hb] at hb0
      obtain rfl := Option.some.inj hb0
      have hpf : p0.fix = true := by
        rcases hfx with e | e
        · exact e
        · rw [hf] at e; cases e
      rw [hh] at hget
      have hj := List.getElem?_eq_getElem (l := rs) (i := j) (by omega)
      simp only [hj] at hget
      exact ⟨(crh r j hr hh).trans ((agr j r p0 hp0 hpf p2).trans q1), _, hget, hl, hf⟩
end
end Go.Ex
