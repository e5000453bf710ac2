/- What is known may be forgotten: one state that says less than another one. -/
import Derived.Test.YtkhbodngiodklaaDxZ
set_option linter.all false
namespace Go.Dx
open Go Go.RowKit

def eqI (a b : I) (p : Prop) : Prop := match a, b with
  | .l x, .l y => if x == y then p else False
  | a, b => a.val = b.val ∧ p
def eqBo (a b : B) (p : Prop) : Prop := match a, b with
  | .l x, .l y => if x == y then p else False
  | a, b => a.val = b.val ∧ p
theorem eqI_iff {a b : I} {p : Prop} : eqI a b p ↔ a.val = b.val ∧ p := by
  unfold eqI
  split
  · rename_i x y
    by_cases h : x = y <;> simp [h, I.val]
  · exact Iff.rfl
theorem eqBo_iff {a b : B} {p : Prop} : eqBo a b p ↔ a.val = b.val ∧ p := by
  unfold eqBo
  split
  · rename_i x y
    by_cases h : x = y <;> simp [h, B.val]
  · exact Iff.rfl
def subF2 : List FCol2 → List FCol2 → Prop → Prop
  | [], [], p => p
  | .i k f :: cs, .i k' g :: ds, p => if k == k' then f = g ∧ subF2 cs ds p else False
  | .b f :: cs, .b g :: ds, p => f = g ∧ subF2 cs ds p
  | .s f :: cs, .s g :: ds, p => f = g ∧ subF2 cs ds p
  | _, _, _ => False
def subC : Col → Col → Prop → Prop
  | _, .j, p => p
  | .f (.i k f), .f (.i k' g), p => if k == k' then f = g ∧ p else False
  | .f (.b f), .f (.b g), p => f = g ∧ p
  | .f (.s f), .f (.s g), p => f = g ∧ p
  | .sl n cs, .sl m ds, p => n = m ∧ subF2 cs ds p
  | _, _, _ => False
def subCs : List Col → List Col → Prop → Prop
  | _, [], p => p
  | c :: cs, d :: ds, p => subC c d (subCs cs ds p)
  | [], _ :: _, _ => False
theorem subF2_iff : ∀ {cs ds : List FCol2} {p : Prop}, subF2 cs ds p → cs = ds ∧ p
  | [], [], p, h => ⟨rfl, h⟩
  | .i k f :: cs, .i k' g :: ds, p, h => by
    simp only [subF2] at h
    split at h
    · rename_i hk
      obtain rfl := eq_of_beq hk
      obtain ⟨rfl, h⟩ := h
      obtain ⟨rfl, hp⟩ := subF2_iff h
      exact ⟨rfl, hp⟩
    · exact h.elim
  | .b f :: cs, .b g :: ds, p, h => by
    obtain ⟨rfl, h⟩ := h
    obtain ⟨rfl, hp⟩ := subF2_iff h
    exact ⟨rfl, hp⟩
  | .s f :: cs, .s g :: ds, p, h => by
    obtain ⟨rfl, h⟩ := h
    obtain ⟨rfl, hp⟩ := subF2_iff h
    exact ⟨rfl, hp⟩
  | [], _ :: _, p, h => by simp [subF2] at h
  | .i _ _ :: _, [], p, h | .b _ :: _, [], p, h | .s _ :: _, [], p, h => by simp [subF2] at h
  | .i _ _ :: _, .b _ :: _, p, h | .i _ _ :: _, .s _ :: _, p, h | .b _ :: _, .i _ _ :: _, p, h | .b _ :: _, .s _ :: _, p, h | .s _ :: _, .i _ _ :: _, p, h | .s _ :: _, .b _ :: _, p, h => by simp [subF2] at h
theorem subC_iff {c d : Col} {p : Prop} (h : subC c d p) : (d = .j ∨ c = d) ∧ p := by
  unfold subC at h
  split at h
  · exact ⟨.inl rfl, h⟩
  · split at h
    · rename_i hk
      obtain rfl := eq_of_beq hk
      obtain ⟨rfl, h⟩ := h
      exact ⟨.inr rfl, h⟩
    · exact h.elim
  · obtain ⟨rfl, h⟩ := h; exact ⟨.inr rfl, h⟩
  · obtain ⟨rfl, h⟩ := h; exact ⟨.inr rfl, h⟩
  · obtain ⟨rfl, h⟩ := h
    obtain ⟨rfl, hp⟩ := subF2_iff h
    exact ⟨.inr rfl, hp⟩
  · exact h.elim
theorem subCs_iff : ∀ {cs ds : List Col} {p : Prop}, subCs cs ds p → (∀ j, ds.getD j .j = .j ∨ cs.getD j .j = ds.getD j .j) ∧ p
  | _, [], p, h => ⟨fun j => .inl (by simp), by cases ‹List Col› <;> exact h⟩
  | c :: cs, d :: ds, p, h => by
    obtain ⟨h1, h2⟩ := subC_iff (show subC c d (subCs cs ds p) from h)
    obtain ⟨h3, h4⟩ := subCs_iff h2
    refine ⟨fun j => ?_, h4⟩
    cases j with
    | zero => simpa using h1
    | succ j => simpa using h3 j
  | [], _ :: _, p, h => by simp [subCs] at h
theorem subCs_get {cs ds : List Col} {p : Prop} (h : subCs cs ds p) (i j : Nat) : getC ds i j = .junk ∨ getC cs i j = getC ds i j := by
  rcases (subCs_iff h).1 j with h | h
  · left; unfold getC; rw [h]; rfl
  · right; unfold getC; rw [h]

/-- What the second value says holds of whatever the first one says. -/
def subL (nv nr : Nat) (v t : V) (p : Prop) : Prop :=
  match v, t with
  | _, .junk => p
  | .i k n, .i k' n' => if k == k' then eqI n n' p else False
  | .b x, .b y => eqBo x y p
  | .v (.string a), .v (.string b) => a = b ∧ p
  | .v (.slice none 0 0), .v (.slice none 0 0) => p
  | .v a, .v b => a = b ∧ p
  | .lp x o, .lp y q => if x == y && o == q && decide (x < nv) then p else False
  | .own r, .own r' => if r == r' && decide (r < nr) then p else False
  | .vw r sz lo n, .vw r' sz' lo' n' => if r == r' && sz == sz' && decide (r < nr) then eqI lo lo' (eqI n n' p) else False
  | .op r sz i j, .op r' sz' i' j' => if r == r' && sz == sz' && j == j' && decide (r < nr) then eqI i i' p else False
  | .ro n sz cs, .ro n' sz' cs' => if sz == sz' then eqI n n' (subCs cs cs' p) else False
  | .rp n sz cs i j, .rp n' sz' cs' i' j' => if sz == sz' && j == j' then eqI n n' (eqI i i' (subCs cs cs' p)) else False
  | _, _ => False
mutual
def subV (nv nr : Nat) : V → V → Prop → Prop
  | .agg l, .agg l', p => subVs nv nr l l' p
  | .tup l, .tup l', p => subVs nv nr l l' p
  | .fn f l, .fn f' l', p => if f == f' then subVs nv nr l l' p else False
  | v, t, p => subL nv nr v t p
def subVs (nv nr : Nat) : List V → List V → Prop → Prop
  | [], [], p => p
  | v :: vs, w :: ws, p => subV nv nr v w (subVs nv nr vs ws p)
  | _, _, _ => False
end

def C.cut (c : C) (nv nr : Nat) : C := { c with nv := nv, nr := nr }
theorem RFl_j {u : Value} : RFl .junk u := trivial
theorem roR.sub {c : C} {rel : V → Value → Prop} (hj : ∀ u, rel .junk u) {n n' : I} {sz : Nat} {cs ds : List Col} {u : Value} (hn : n.val = n'.val) (hc : ∀ i j, getC ds i j = .junk ∨ getC cs i j = getC ds i j) (h : roR c rel n sz cs u) : roR c rel n' sz ds u := by
  obtain ⟨A, cp, e, h0, h1, h2, h3⟩ := h
  rw [hn] at e h0 h1 h3
  refine ⟨A, cp, e, h0, h1, h2, fun i j hi hj' => ?_⟩
  obtain ⟨a, ea, hF, u', hu, ho, hq⟩ := h3 i j hi hj'
  refine ⟨a, ea, hF, u', hu, ho, ?_⟩
  rcases hc i j with e | e
  · rw [e]; exact hj _
  · rw [← e]; exact hq
theorem RCell_j {c : C} (u : Value) : RCell c .junk u := by simp [RCell, RFl]
theorem RCell.cut {c : C} {nv nr : Nat} {v : V} {u : Value} (h : RCell c v u) : RCell (c.cut nv nr) v u := by
  cases v <;> first | exact h | exact roR.mono (fun _ h => h) (fun _ _ => rfl) (fun _ _ h => h) h

theorem RV.subL {c : C} {nv nr : Nat} (hnv : nv ≤ c.nv) (hnr : nr ≤ c.nr) {v t : V} {p : Prop} (h : subL nv nr v t p) : p ∧ ∀ u, RV c v u → RV (c.cut nv nr) t u := by
  unfold Dx.subL at h
  split at h
  · exact ⟨h, fun u _ => by simp [RV]⟩
  · split at h
    · rename_i hk
      obtain rfl := eq_of_beq hk
      obtain ⟨e, hp⟩ := eqI_iff.1 h
      exact ⟨hp, fun u hr => by simp only [RV, RC] at hr ⊢; rw [hr, e]⟩
    · exact h.elim
  · obtain ⟨e, hp⟩ := eqBo_iff.1 h
    exact ⟨hp, fun u hr => by simp only [RV, RC] at hr ⊢; rw [hr, e]⟩
  · obtain ⟨rfl, hp⟩ := h
    exact ⟨hp, fun u hr => by simpa only [RV, RC] using hr⟩
  · exact ⟨h, fun u hr => by simpa only [RV, RC] using hr⟩
  · obtain ⟨rfl, hp⟩ := h
    exact ⟨hp, fun u hr => by simpa only [RV, RC] using hr⟩
  · split at h
    · rename_i hc
      simp only [Bool.and_eq_true, beq_iff_eq, decide_eq_true_eq] at hc
      obtain ⟨⟨rfl, rfl⟩, hx⟩ := hc
      exact ⟨h, fun u hr => by simp only [RV, RC] at hr ⊢; exact ⟨hx, hr.2⟩⟩
    · exact h.elim
  · split at h
    · rename_i hc
      simp only [Bool.and_eq_true, beq_iff_eq, decide_eq_true_eq] at hc
      obtain ⟨rfl, hx⟩ := hc
      exact ⟨h, fun u hr => by simp only [RV] at hr ⊢; exact ⟨hx, hr.2⟩⟩
    · exact h.elim
  · split at h
    · rename_i hc
      simp only [Bool.and_eq_true, beq_iff_eq, decide_eq_true_eq] at hc
      obtain ⟨⟨rfl, rfl⟩, hx⟩ := hc
      obtain ⟨e1, h⟩ := eqI_iff.1 h
      obtain ⟨e2, h⟩ := eqI_iff.1 h
      exact ⟨h, fun u hr => by simp only [RV] at hr ⊢; rw [← e1, ← e2]; exact ⟨hx, hr.2⟩⟩
    · exact h.elim
  · split at h
    · rename_i hc
      simp only [Bool.and_eq_true, beq_iff_eq, decide_eq_true_eq] at hc
      obtain ⟨⟨⟨rfl, rfl⟩, rfl⟩, hx⟩ := hc
      obtain ⟨e1, h⟩ := eqI_iff.1 h
      exact ⟨h, fun u hr => by simp only [RV] at hr ⊢; rw [← e1]; exact ⟨hx, hr.2⟩⟩
    · exact h.elim
  · split at h
    · rename_i hc
      obtain rfl := eq_of_beq hc
      obtain ⟨e1, h⟩ := eqI_iff.1 h
      refine ⟨(subCs_iff h).2, fun u hr => ?_⟩
      simp only [RV, RC] at hr ⊢
      exact roR.mono (fun _ h => h) (fun _ _ => rfl) (fun _ _ h => h.cut) (roR.sub RCell_j e1 (subCs_get h) hr)
    · exact h.elim
  · split at h
    · rename_i hc
      simp only [Bool.and_eq_true, beq_iff_eq] at hc
      obtain ⟨rfl, rfl⟩ := hc
      obtain ⟨e1, h⟩ := eqI_iff.1 h
      obtain ⟨e2, h⟩ := eqI_iff.1 h
      refine ⟨(subCs_iff h).2, fun u hr => ?_⟩
      simp only [RV, RC] at hr ⊢
      rw [← e1, ← e2]
      obtain ⟨ad, e, q0, q1, hF, q3⟩ := hr
      refine ⟨ad, e, q0, q1, hF, fun i2 j2 hi hj => ?_⟩
      obtain ⟨u', hu, ho, hq⟩ := q3 i2 j2 hi hj
      refine ⟨u', hu, ho, ?_⟩
      rcases subCs_get h i2 j2 with e | e
      · rw [e]; exact RCell_j _
      · rw [← e]; exact hq.cut
    · exact h.elim
  · exact h.elim
mutual
theorem RV.sub {c : C} {nv nr : Nat} (hnv : nv ≤ c.nv) (hnr : nr ≤ c.nr) : ∀ (v t : V) (p : Prop), subV nv nr v t p → p ∧ ∀ u, RV c v u → RV (c.cut nv nr) t u
  | .agg l, t, p, h => by
    cases t with
    | agg l' =>
      simp only [subV] at h
      obtain ⟨hp, hs⟩ := RVs.sub hnv hnr l l' p h
      exact ⟨hp, fun u hr => by simp only [RV] at hr ⊢; obtain ⟨us, e, hq⟩ := hr; exact ⟨us, e, hs _ hq⟩⟩
    | _ => exact RV.subL hnv hnr (by simpa only [subV] using h)
  | .tup l, t, p, h => by
    cases t with
    | tup l' =>
      simp only [subV] at h
      obtain ⟨hp, hs⟩ := RVs.sub hnv hnr l l' p h
      exact ⟨hp, fun u hr => by simp only [RV] at hr ⊢; obtain ⟨us, e, hq⟩ := hr; exact ⟨us, e, hs _ hq⟩⟩
    | _ => exact RV.subL hnv hnr (by simpa only [subV] using h)
  | .fn f l, t, p, h => by
    cases t with
    | fn f' l' =>
      simp only [subV] at h
      split at h
      · rename_i hf
        obtain rfl := eq_of_beq hf
        obtain ⟨hp, hs⟩ := RVs.sub hnv hnr l l' p h
        exact ⟨hp, fun u hr => by simp only [RV] at hr ⊢; obtain ⟨us, e, hq⟩ := hr; exact ⟨us, e, hs _ hq⟩⟩
      · exact h.elim
    | _ => exact RV.subL hnv hnr (by simpa only [subV] using h)
  | .i _ _, t, p, h | .b _, t, p, h | .v _, t, p, h | .lp _ _, t, p, h | .ro _ _ _, t, p, h | .rp _ _ _ _ _, t, p, h | .own _, t, p, h | .vw _ _ _ _, t, p, h | .op _ _ _ _, t, p, h | .junk, t, p, h => RV.subL hnv hnr (by simpa only [subV] using h)
theorem RVs.sub {c : C} {nv nr : Nat} (hnv : nv ≤ c.nv) (hnr : nr ≤ c.nr) : ∀ (vs ts : List V) (p : Prop), subVs nv nr vs ts p → p ∧ ∀ us, RVs c vs us → RVs (c.cut nv nr) ts us
  | [], [], p, h => ⟨h, fun us hr => by simpa only [RVs] using hr⟩
  | v :: vs, t :: ts, p, h => by
    simp only [subVs] at h
    obtain ⟨h1, h2⟩ := RV.sub hnv hnr v t _ h
    obtain ⟨h3, h4⟩ := RVs.sub hnv hnr vs ts p h1
    refine ⟨h3, fun us hr => ?_⟩
    simp only [RVs] at hr ⊢
    obtain ⟨u, us', e, q1, q2⟩ := hr
    exact ⟨u, us', e, h2 _ q1, h4 _ q2⟩
  | [], _ :: _, p, h => by simp [subVs] at h
  | _ :: _, [], p, h => by simp [subVs] at h
end

/-! ### States -/
section
variable {P : Program} {T : TypeId → TI} {w0 : World} {fp : Nat → Prop} {c : C} {s t : S} {a : Act} {f : FuncId} {R : Ending → World → Prop}

/-- What is said of each place of the second state holds, if what is said of the first one does. -/
structure Weak (s t : S) : Prop where
  nv : t.vars.length ≤ s.vars.length
  nr : t.rows.length ≤ s.rows.length
  tmps : ∀ c : C, c.nv = s.vars.length → c.nr = s.rows.length → ∀ us, RVs c s.tmps us → RVs (c.cut t.vars.length t.rows.length) t.tmps us
  vars : ∀ (x : Nat) (w : Var), t.vars[x]? = some w → ∃ v : Var, s.vars[x]? = some v ∧ v.t = w.t ∧ ∀ c : C, c.nv = s.vars.length → c.nr = s.rows.length → ∀ us, RVs c v.cells us → RVs (c.cut t.vars.length t.rows.length) w.cells us
  rows : ∀ (r : Nat) (w : Row), t.rows[r]? = some w → w.live = true → ∃ v : Row, s.rows[r]? = some v ∧ v.live = true ∧ v.e = w.e ∧ v.sz = w.sz ∧ v.n.val = w.n.val ∧
    ∀ c : C, c.nv = s.vars.length → ∀ us, us.length = v.n.val.toNat * v.sz → RCs c (v.ct.cells v.n.val.toNat v.sz) us → RCs (c.cut t.vars.length t.rows.length) (w.ct.cells v.n.val.toNat v.sz) us
theorem Holds.weaken (h : Holds w0 fp c s a) (hs : Weak s t) : Holds w0 fp (c.cut t.vars.length t.rows.length) t a := by
  have hnv : t.vars.length ≤ c.nv := by rw [h.nv]; exact hs.nv
  have hnr : t.rows.length ≤ c.nr := by rw [h.nr]; exact hs.nr
  refine { kept := h.kept, size := h.size, os := h.os, tape := h.tape, output := h.output, tmps := hs.tmps c h.nv h.nr _ h.tmps, defers := h.defers, nv := rfl, nr := rfl, vars := ?_, vdist := fun x y hx hy => h.vdist x y (Nat.lt_of_lt_of_le hx hnv) (Nat.lt_of_lt_of_le hy hnv), rows := ?_, rdist := ?_, flt := h.flt }
  · intro x w hw
    obtain ⟨v, hv, ht, hc⟩ := hs.vars x w hw
    have hh := h.vars x v hv
    obtain ⟨us, hu, hr⟩ := hh.at_
    exact ⟨⟨us, by rw [← ht]; exact hu, hc c h.nv h.nr _ hr⟩, hh.mine, hh.notF⟩
  · intro r w hw hl
    obtain ⟨v, hv, hl', he, hsz, hn, hct⟩ := hs.rows r w hw hl
    have hh := h.rows r v hv hl'
    obtain ⟨us, ho, hc, h1'⟩ := hh.at_
    refine ⟨⟨us, by rw [← he, ← hsz, ← hn]; exact ho, ?_, h1'⟩, by rw [← hn]; exact hh.nonneg, fun k hk => ?_⟩
    · rw [← hn, ← hsz]
      exact hct c h.nv us ho.1 hc
    · have := hh.mine k hk
      exact ⟨this.1, this.2.1, fun x hx => this.2.2 x (Nat.lt_of_lt_of_le hx hnv)⟩
  · intro r r' w w' hw hw' hl hl' hne k hk
    obtain ⟨v, hv, q, _⟩ := hs.rows r w hw hl
    obtain ⟨v', hv', q', _⟩ := hs.rows r' w' hw' hl'
    exact h.rdist r r' v v' hv hv' q q' hne k hk
theorem GoesS.weaken {its : List It} (hs : Weak s t) (h : GoesS P f w0 fp R its t) : GoesS P f w0 fp R its s :=
  fun todo c a ht hh => h todo (c.cut t.vars.length t.rows.length) a ht (hh.weaken hs)

/-- A loop: what is known at its head, a word for each round, and what goes down. -/
theorem GoesS.loop {σ : Type} {cd : Code} {k : List It} (inv : σ → S) (good : σ → Prop) (μ : σ → Nat) (x0 : σ) (h0 : good x0) (hs : Weak s (inv x0))
    (round : ∀ x, good x → (∀ y, good y → μ y < μ x → GoesS P f w0 fp R (.inLoop cd :: k) (inv y)) → GoesS P f w0 fp R (.code cd :: .inLoop cd :: k) (inv x)) :
    GoesS P f w0 fp R (.code (.loop cd) :: k) s := by
  refine GoesS.weaken hs ?_
  have key : ∀ n x, μ x = n → good x → GoesS P f w0 fp R (.code cd :: .inLoop cd :: k) (inv x) := by
    intro n
    induction n using Nat.strongRecOn with
    | _ n ih =>
      intro x hn hg
      refine round x hg (fun y hy hlt => ?_)
      intro p c a ht hh
      obtain ⟨todo, rfl⟩ : ∃ todo, p = .items todo := by cases p with | items l => exact ⟨l, rfl⟩ | open_ => cases ht | pick => cases ht
      replace ht : todo.map slim = .inLoop cd :: k := ht
      show Goes P f R todo a c.w
      obtain ⟨i0, todo', rfl, hi0, hk⟩ : ∃ i0 todo', todo = i0 :: todo' ∧ slim i0 = .inLoop cd ∧ todo'.map slim = k := by
        cases todo with
        | nil => simp at ht
        | cons i0 todo' => simp only [List.map_cons, List.cons.injEq] at ht; exact ⟨i0, todo', rfl, ht.1, ht.2⟩
      obtain rfl := slim_inLoop hi0
      exact Goes.next (fun b cs => step_inLoop) (ih _ (hn ▸ hlt) y rfl hy (.items (.code cd :: .inLoop cd :: todo')) c a (by simp [Pos.its, slim, hk]) hh)
  intro p c a ht hh
  obtain ⟨todo, rfl⟩ : ∃ todo, p = .items todo := by cases p with | items l => exact ⟨l, rfl⟩ | open_ => cases ht | pick => cases ht
  replace ht : todo.map slim = .code (.loop cd) :: k := ht
  show Goes P f R todo a c.w
  obtain ⟨i0, todo', rfl, hi0, hk⟩ : ∃ i0 todo', todo = i0 :: todo' ∧ slim i0 = .code (.loop cd) ∧ todo'.map slim = k := by
    cases todo with
    | nil => simp at ht
    | cons i0 todo' => simp only [List.map_cons, List.cons.injEq] at ht; exact ⟨i0, todo', rfl, ht.1, ht.2⟩
  rcases slim_code hi0 with rfl | hbad
  · exact Goes.next (fun b cs => step_loop) (key _ x0 rfl h0 (.items (.code cd :: .inLoop cd :: todo')) c a (by simp [Pos.its, slim, hk]) hh)
  · cases hbad

/-- Nil is a row of nothing. -/
theorem GoesS.nilRow {its : List It} (slot : Nat) (e sz : Nat) (hv : s.tmps[slot]? = some (.v (.slice none 0 0)))
    (h : GoesS P f w0 fp R its { s with tmps := s.tmps.set slot (.own s.rows.length), rows := s.rows ++ [⟨true, e, sz, .l 0, .list []⟩] }) : GoesS P f w0 fp R its s := by
  intro todo c a ht hh
  obtain ⟨le, hh'⟩ := hh.newRow (⟨true, e, sz, .l 0, .list []⟩ : Row) (v := .slice none 0 0) (w' := c.w) (us := []) ⟨rfl, rfl, rfl, Nat.le_refl _, fun _ _ _ => rfl⟩ (World.ownsRow_nil _ _ _ _) rfl (by simp [I.val]) (by simp [Ct.cells, RCs]) (by simp)
  refine h todo (c.newRow (.slice none 0 0) c.w) a ht { hh' with tmps := ?_, nv := hh'.nv, nr := hh'.nr, vars := hh'.vars, rows := hh'.rows, rdist := hh'.rdist }
  obtain ⟨u, hu, hr⟩ := hh.tmps.get slot hv
  simp only [RV, RC] at hr
  subst hr
  have := RVs.set slot hh'.tmps (v := .own s.rows.length) (u := .slice none 0 0) (by
    simp only [RV, C.newRow]
    exact ⟨by rw [hh.nr]; omega, by rw [if_pos hh.nr.symm], by rw [if_pos hh.nr.symm]; rfl⟩)
  rwa [show a.tmps.toList.set slot (.slice none 0 0) = a.tmps.toList from by
    apply List.ext_getElem?
    intro i
    by_cases hi : slot = i
    · subst hi
      rw [List.getElem?_set_self (List.getElem?_eq_some_iff.1 hu).1, hu]
    · rw [List.getElem?_set_ne hi]] at this
end
end Go.Dx
