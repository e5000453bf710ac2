/- What is to be shown of a function, as one proposition: over its branches, its calls by their contracts, its loops by what is known at their heads. -/
import Derived.Test.YtkhbodngiodklaaDyD
set_option linter.all false
namespace Go.Dx
open Go Go.RowKit

def needsP : List Need → Prop → Prop
  | [], p => p
  | .idx i n :: ns, p => (0 ≤ i ∧ i < n) ∧ needsP ns p
  | .le a b :: ns, p => a ≤ b ∧ needsP ns p
  | .room n bytes :: ns, p => (0 ≤ n ∧ n * bytes ≤ 140737488355328) ∧ needsP ns p
  | .nonneg a :: ns, p => 0 ≤ a ∧ needsP ns p
  | .ne a b :: ns, p => a ≠ b ∧ needsP ns p
theorem needsP_iff : ∀ {l : List Need} {p : Prop}, needsP l p ↔ needsOK l ∧ p
  | [], p => by simp [needsP, needsOK]
  | n :: ns, p => by
    have ih := needsP_iff (l := ns) (p := p)
    cases n <;> simp only [needsP, needsOK, Need.ok, ih, and_assoc]

/-! ### What is given back -/
mutual
def sigV : V → V → List (Nat × Option Nat)
  | .own r, .own k => [(k, some r)]
  | .v (.slice none 0 0), .own k => [(k, none)]
  | .agg l, .agg l' => sigVs l l'
  | .tup l, .tup l' => sigVs l l'
  | _, _ => []
def sigVs : List V → List V → List (Nat × Option Nat)
  | v :: vs, w :: ws => sigV v w ++ sigVs vs ws
  | _, _ => []
end
def lookN {α : Type} : List (Nat × α) → Nat → Option α
  | [], _ => none
  | (k, r) :: l, j => if k == j then some r else lookN l j
def nodupB : List (Nat × Option Nat) → Bool
  | [] => true
  | (_, none) :: l => nodupB l
  | (_, some r) :: l => !(l.any fun q => q.2 == some r) && nodupB l
def outL (n : Nat) (σ : List (Nat × Option Nat)) (v t : V) (p : Prop) : Prop :=
  match v, t with
  | _, .junk => p
  | .i k n, .i k' n' => if k == k' then eqI n n' p else False
  | .b x, .b y => eqBo x y p
  | .v (.string a), .v (.string b) => a = b ∧ p
  | .v (.slice none 0 0), .v (.slice none 0 0) => p
  | .own r, .own k => if lookN σ k == some (some r) && decide (k < n) then p else False
  | .v (.slice none 0 0), .own k => if lookN σ k == some none && decide (k < n) then p else False
  | _, _ => False
mutual
def outV (n : Nat) (σ : List (Nat × Option Nat)) : V → V → Prop → Prop
  | .agg l, .agg l', p => outVs n σ l l' p
  | .tup l, .tup l', p => outVs n σ l l' p
  | v, t, p => outL n σ v t p
def outVs (n : Nat) (σ : List (Nat × Option Nat)) : List V → List V → Prop → Prop
  | [], [], p => p
  | v :: vs, w :: ws, p => outV n σ v w (outVs n σ vs ws p)
  | _, _, _ => False
end
def rho (c : C) (σ : List (Nat × Option Nat)) (k : Nat) : Value := match lookN σ k with | some (some r) => c.r r | _ => .slice none 0 0
theorem outL_sound {n : Nat} {σ : List (Nat × Option Nat)} {c : C} {v t : V} {p : Prop} (h : outL n σ v t p) : p ∧ ∀ u, RV c v u → RV (resC c.w (rho c σ) n) t u := by
  unfold outL at h
  split at h
  · exact ⟨h, fun u _ => by simp [RV]⟩
  · split at h
    · rename_i hk
      obtain rfl := eq_of_beq hk
      obtain ⟨e, hp⟩ := eqI_iff.1 h
      exact ⟨hp, fun u hr => by simp only [RV, RC] at hr ⊢; rw [hr, e]⟩
    · exact h.elim
  · obtain ⟨e, hp⟩ := eqBo_iff.1 h
    exact ⟨hp, fun u hr => by simp only [RV, RC] at hr ⊢; rw [hr, e]⟩
  · obtain ⟨rfl, hp⟩ := h
    exact ⟨hp, fun u hr => by simpa only [RV, RC] using hr⟩
  · exact ⟨h, fun u hr => by simpa only [RV, RC] using hr⟩
  · split at h
    · rename_i hc
      simp only [Bool.and_eq_true, beq_iff_eq, decide_eq_true_eq] at hc
      refine ⟨h, fun u hr => ?_⟩
      simp only [RV, resC, rho, hc.1] at hr ⊢
      exact ⟨hc.2, hr.2⟩
    · exact h.elim
  · split at h
    · rename_i hc
      simp only [Bool.and_eq_true, beq_iff_eq, decide_eq_true_eq] at hc
      refine ⟨h, fun u hr => ?_⟩
      simp only [RV, RC, resC, rho, hc.1] at hr ⊢
      exact ⟨hc.2, hr, rfl⟩
    · exact h.elim
  · exact h.elim
mutual
theorem outV_sound {n : Nat} {σ : List (Nat × Option Nat)} {c : C} : ∀ (v t : V) (p : Prop), outV n σ v t p → p ∧ ∀ u, RV c v u → RV (resC c.w (rho c σ) n) t u
  | .agg l, t, p, h => by
    cases t with
    | agg l' =>
      simp only [outV] at h
      obtain ⟨hp, hs⟩ := outVs_sound l l' p h
      exact ⟨hp, fun u hr => by simp only [RV] at hr ⊢; obtain ⟨us, e, hq⟩ := hr; exact ⟨us, e, hs _ hq⟩⟩
    | _ => exact outL_sound (by simpa only [outV] using h)
  | .tup l, t, p, h => by
    cases t with
    | tup l' =>
      simp only [outV] at h
      obtain ⟨hp, hs⟩ := outVs_sound l l' p h
      exact ⟨hp, fun u hr => by simp only [RV] at hr ⊢; obtain ⟨us, e, hq⟩ := hr; exact ⟨us, e, hs _ hq⟩⟩
    | _ => exact outL_sound (by simpa only [outV] using h)
  | .fn _ _, t, p, h | .i _ _, t, p, h | .b _, t, p, h | .v _, t, p, h | .lp _ _, t, p, h | .ro _ _ _, t, p, h | .rp _ _ _ _ _, t, p, h | .own _, t, p, h | .vw _ _ _ _, t, p, h | .op _ _ _ _, t, p, h | .junk, t, p, h => outL_sound (by simpa only [outV] using h)
theorem outVs_sound {n : Nat} {σ : List (Nat × Option Nat)} {c : C} : ∀ (vs ts : List V) (p : Prop), outVs n σ vs ts p → p ∧ ∀ us, RVs c vs us → RVs (resC c.w (rho c σ) n) ts us
  | [], [], p, h => ⟨h, fun us hr => by simpa only [RVs] using hr⟩
  | v :: vs, t :: ts, p, h => by
    simp only [outVs] at h
    obtain ⟨h1, h2⟩ := outV_sound (c := c) v t _ h
    obtain ⟨h3, h4⟩ := outVs_sound (c := c) vs ts p h1
    refine ⟨h3, fun us hr => ?_⟩
    simp only [RVs] at hr ⊢
    obtain ⟨u, us', e, q1, q2⟩ := hr
    exact ⟨u, us', e, h2 _ q1, h4 _ q2⟩
  | [], _ :: _, p, h => by simp [outVs] at h
  | _ :: _, [], p, h => by simp [outVs] at h
end
/-- Numbers, bools, texts. -/
def flatB : V → Bool
  | .i _ _ | .b _ | .v (.string _) | .junk => true
  | _ => false
theorem RC.of_flat {c c' : C} : ∀ {v : V} {u : Value}, flatB v = true → RV c v u → RC c' v u
  | .i _ _, _, _, h => by simpa only [RV, RC] using h
  | .b _, _, _, h => by simpa only [RV, RC] using h
  | .v x, _, hf, h => by simpa only [RV, RC] using h
  | .junk, _, _, _ => by simp only [RC]
  | .lp _ _, _, hf, _ | .ro _ _ _, _, hf, _ | .rp _ _ _ _ _, _, hf, _ | .own _, _, hf, _ | .vw _ _ _ _, _, hf, _ | .op _ _ _ _, _, hf, _ | .fn _ _, _, hf, _ | .agg _, _, hf, _ | .tup _, _, hf, _ => by simp [flatB] at hf
theorem RCs.of_flat {c c' : C} : ∀ {vs : List V} {us : List Value}, vs.all flatB = true → RVs c vs us → RCs c' vs us
  | [], us, _, h => by simpa only [RVs, RCs] using h
  | v :: vs, us, hf, h => by
    simp only [List.all_cons, Bool.and_eq_true] at hf
    simp only [RVs, RCs] at h ⊢
    obtain ⟨u, us', e, h1, h2⟩ := h
    exact ⟨u, us', e, RC.of_flat hf.1 h1, RCs.of_flat hf.2 h2⟩
def colEq (n : Nat) : Col → Col → Prop → Prop
  | _, .j, p => p
  | .f (.i k f), .f (.i k' g), p => if k == k' then (∀ i, i < n → f i = g i) ∧ p else False
  | .f (.b f), .f (.b g), p => (∀ i, i < n → f i = g i) ∧ p
  | .f (.s f), .f (.s g), p => (∀ i, i < n → f i = g i) ∧ p
  | _, _, _ => False
def colsEq (n : Nat) : List Col → List Col → Prop → Prop
  | _, [], p => p
  | c :: cs, d :: ds, p => colEq n c d (colsEq n cs ds p)
  | [], _ :: _, _ => False
theorem colEq_sound {n : Nat} {c d : Col} {p : Prop} (h : colEq n c d p) : p ∧ ∀ (c1 c2 : C) (i : Nat) (u : Value), i < n → RC c1 (c.at i) u → RC c2 (d.at i) u := by
  unfold colEq at h
  split at h
  · exact ⟨h, fun _ _ i u _ _ => by simp [Col.at, RC]⟩
  · split at h
    · rename_i hk
      obtain rfl := eq_of_beq hk
      exact ⟨h.2, fun _ _ i u hi hr => by simpa only [Col.at, FCol.at, RC, ← h.1 i hi] using hr⟩
    · exact h.elim
  · exact ⟨h.2, fun _ _ i u hi hr => by simpa only [Col.at, FCol.at, RC, ← h.1 i hi] using hr⟩
  · exact ⟨h.2, fun _ _ i u hi hr => by simpa only [Col.at, FCol.at, RC, ← h.1 i hi] using hr⟩
  · exact h.elim
theorem colsEq_sound {n : Nat} : ∀ {cs ds : List Col} {p : Prop}, colsEq n cs ds p → p ∧ ∀ (c c' : C) (i j : Nat) (u : Value), i < n → RC c (getC cs i j) u → RC c' (getC ds i j) u
  | cs, [], p, h => ⟨by cases cs <;> exact h, fun _ _ i j u _ _ => by simp [getC, Col.at, RC]⟩
  | c :: cs, d :: ds, p, h => by
    obtain ⟨h1, h2⟩ := colEq_sound (show colEq n c d (colsEq n cs ds p) from h)
    obtain ⟨h3, h4⟩ := colsEq_sound h1
    refine ⟨h3, fun c1 c2 i j u hi hr => ?_⟩
    cases j with
    | zero => simp only [getC, List.getD_cons_zero] at hr ⊢; exact h2 c1 c2 i u hi hr
    | succ j => simp only [getC, List.getD_cons_succ] at hr ⊢; exact h4 c1 c2 i j u hi hr
  | [], _ :: _, p, h => by simp [colsEq] at h
def ctEq (sz : Nat) (n : I) : Ct → Ct → Prop → Prop
  | .list l, .list l', p => if l'.all flatB then outVs 0 [] l l' p else False
  | a, .cols cs, p => colsEq (natI n) (a.cols' sz) cs p
  | _, _, _ => False
theorem ctEq_sound {sz : Nat} {n : I} {a b : Ct} {p : Prop} (h : ctEq sz n a b p) : p ∧ ∀ (c c' : C) (us : List Value), us.length = n.val.toNat * sz → RCs c (a.cells n.val.toNat sz) us → RCs c' (b.cells n.val.toNat sz) us := by
  unfold ctEq at h
  split at h
  · split at h
    case isFalse => exact h.elim
    rename_i hf
    refine ⟨(outVs_sound (c := ⟨default, fun _ => False, fun _ => 0, fun _ => undef, 0, 0⟩) _ _ _ h).1, fun c c' us _ hr => ?_⟩
    exact RCs.of_flat (c := resC c.w (rho c []) 0) hf ((outVs_sound _ _ _ h).2 _ (RVs.of_RCs _ _ hr))
  · obtain ⟨h1, h2⟩ := colsEq_sound h
    refine ⟨h1, fun c c' us hl hr => ?_⟩
    rw [natI_val] at h2
    refine RCs_flat hl (fun i j u hi hj hu => ?_)
    obtain ⟨u', hu', hq⟩ := RCs_flat_get (Ct.cols'_sound hl hr) hi hj
    rw [hu] at hu'
    obtain rfl := Option.some.inj hu'
    exact h2 c c' i j u hi hq
  · exact h.elim
def nilOK : Ct → Bool
  | .cols _ => true
  | .list l => l.isEmpty
def rowsOK (s : S) (σ : List (Nat × Option Nat)) : Nat → List Row → Prop → Prop
  | _, [], p => p
  | k, b :: bs, p => match lookN σ k with
    | some (some r) => match s.rows[r]? with
      | some b' => if b'.live && b.live && b'.e == b.e && b'.sz == b.sz then eqI b'.n b.n (ctEq b'.sz b'.n b'.ct b.ct (rowsOK s σ (k + 1) bs p)) else False
      | none => False
    | some none => if b.live && nilOK b.ct then eqI (.l 0) b.n (rowsOK s σ (k + 1) bs p) else False
    | none => False
theorem nodupB_sound : ∀ {σ : List (Nat × Option Nat)} {k k' r : Nat}, nodupB σ = true → lookN σ k = some (some r) → lookN σ k' = some (some r) → k = k'
  | [], k, k', r, _, h, _ => by simp [lookN] at h
  | (q, x) :: σ, k, k', r, hn, h, h' => by
    have mem : ∀ {σ : List (Nat × Option Nat)} {k r : Nat}, lookN σ k = some (some r) → σ.any (fun q => q.2 == some r) = true := by
      intro σ
      induction σ with
      | nil => intro k r h; simp [lookN] at h
      | cons a σ ih =>
        intro k r h
        obtain ⟨q, x⟩ := a
        simp only [lookN] at h
        split at h
        · obtain rfl := Option.some.inj h; simp
        · simp [ih h]
    simp only [lookN] at h h'
    cases x with
    | none =>
      simp only [nodupB] at hn
      split at h
      · cases h
      · split at h'
        · cases h'
        · exact nodupB_sound hn h h'
    | some r0 =>
      simp only [nodupB, Bool.and_eq_true, Bool.not_eq_true'] at hn
      split at h
      · rename_i e
        obtain rfl := Option.some.inj (Option.some.inj h)
        split at h'
        · rename_i e'
          rw [← eq_of_beq e, ← eq_of_beq e']
        · have := mem h'
          rw [hn.1] at this
          cases this
      · split at h'
        · obtain rfl := Option.some.inj (Option.some.inj h')
          have := mem h
          rw [hn.1] at this
          cases this
        · exact nodupB_sound hn.2 h h'

section
variable {P : Program} {T : TypeId → TI} {w0 : World} {fp : Nat → Prop} {c : C} {s t : S} {a : Act} {f : FuncId} {R : Ending → World → Prop}

theorem rowsOK_sound {σ : List (Nat × Option Nat)} : ∀ {k : Nat} {bs : List Row} {p : Prop}, rowsOK s σ k bs p → p ∧ ∀ (j : Nat) (b : Row), bs[j]? = some b → b.live = true ∧
    ((∃ r b', lookN σ (k + j) = some (some r) ∧ s.rows[r]? = some b' ∧ b'.live = true ∧ b'.e = b.e ∧ b'.sz = b.sz ∧ b'.n.val = b.n.val ∧ ∀ (c c' : C) (us : List Value), us.length = b'.n.val.toNat * b'.sz → RCs c (b'.ct.cells b'.n.val.toNat b'.sz) us → RCs c' (b.ct.cells b'.n.val.toNat b'.sz) us) ∨
      (lookN σ (k + j) = some none ∧ b.n.val = 0 ∧ nilOK b.ct = true))
  | k, [], p, h => ⟨h, fun j b hb => by simp at hb⟩
  | k, b :: bs, p, h => by
    simp only [rowsOK] at h
    split at h
    · rename_i r hr
      split at h
      case h_2 => exact h.elim
      rename_i b' hb'
      split at h
      case isFalse => exact h.elim
      rename_i hc
      simp only [Bool.and_eq_true, beq_iff_eq] at hc
      obtain ⟨hn, h⟩ := eqI_iff.1 h
      obtain ⟨h, hct⟩ := ctEq_sound h
      obtain ⟨hp, ih⟩ := rowsOK_sound h
      refine ⟨hp, fun j b0 hj => ?_⟩
      cases j with
      | zero =>
        simp at hj; subst hj
        exact ⟨hc.1.1.2, .inl ⟨r, b', hr, hb', hc.1.1.1, hc.1.2, hc.2, hn, hct⟩⟩
      | succ j =>
        have := ih j b0 (by simpa using hj)
        rwa [show k + 1 + j = k + (j + 1) from by omega] at this
    · rename_i hr
      split at h
      case isFalse => exact h.elim
      rename_i hl
      simp only [Bool.and_eq_true] at hl
      obtain ⟨hn, h⟩ := eqI_iff.1 h
      obtain ⟨hp, ih⟩ := rowsOK_sound h
      refine ⟨hp, fun j b0 hj => ?_⟩
      cases j with
      | zero =>
        simp at hj; subst hj
        exact ⟨hl.1, .inr ⟨hr, hn.symm, hl.2⟩⟩
      | succ j =>
        have := ih j b0 (by simpa using hj)
        rwa [show k + 1 + j = k + (j + 1) from by omega] at this
    · exact h.elim

/-- The end of a function, by its contract. -/
def Con.fin (k : Con) (us : List U) (vs : List V) (s : S) : Prop :=
  exU k.outs fun os => k.post us os ∧ if nodupB (sigV (packV vs) (k.ret us os)) then outV (k.rows us os).length (sigV (packV vs) (k.ret us os)) (packV vs) (k.ret us os) (rowsOK s (sigV (packV vs) (k.ret us os)) 0 (k.rows us os) True) else False
theorem Con.fin_sound {k : Con} {us : List U} {vs : List V} (h : k.fin us vs s) : Fin w0 (fun _ => False) (Back w0 (fun ret rows => ∃ os, os.map U.kn = k.outs ∧ k.post us os ∧ ret = k.ret us os ∧ rows = k.rows us os)) vs s := by
  intro c a ws hh hws
  obtain ⟨os, hos, hpost, h⟩ := exU_spec h
  split at h
  case isFalse => exact h.elim
  rename_i hnd
  generalize hσ : sigV (packV vs) (k.ret us os) = σ at h hnd
  obtain ⟨hrows, hret⟩ := outV_sound (c := c) _ _ _ h
  obtain ⟨_, hget⟩ := rowsOK_sound hrows
  refine ⟨pack ws, rfl, ⟨hh.os, hh.tape, hh.output, hh.size, fun k hk => hh.kept k hk (fun h => h)⟩, rho c σ, k.ret us os, k.rows us os, ⟨os, hos, hpost, rfl, rfl⟩, hret _ (pack_RV hws), ?_, ?_⟩
  · intro j b hb
    obtain ⟨hl', h⟩ := hget j b hb
    rw [Nat.zero_add] at h
    rcases h with ⟨r, b', hr, hb', hl, he, hsz, hn, hct⟩ | ⟨hr, hn, hnil⟩
    · have hrow := hh.rows r b' hb' hl
      obtain ⟨us', ho, hc, h1⟩ := hrow.at_
      have hrk : rho c σ j = c.r r := by simp [rho, hr]
      refine ⟨hl', ⟨us', ?_, ?_, h1⟩, by rw [← hn]; exact hrow.nonneg⟩
      · rw [hrk, ← he, ← hsz, ← hn]
        obtain ⟨p1, p2⟩ := ho
        refine ⟨p1, ?_⟩
        rcases p2 with p2 | ⟨g, cap, cur, hv, _, q⟩
        · exact .inl p2
        · refine .inr ⟨g, cap, cur, hv, ?_, q⟩
          rcases (hrow.mine g (by rw [hv]; rfl)).1 with q | q
          · exact q
          · exact q.elim
      · rw [← hn, ← hsz]
        exact hct c _ us' ho.1 hc
    · have hrk : rho c σ j = .slice none 0 0 := by simp [rho, hr]
      refine ⟨hl', ⟨[], ?_, ?_, by simp⟩, by omega⟩
      · rw [hrk, hn]; exact World.ownsRow_nil _ _ _ _
      · rw [hn]
        have hz : (0 : Int).toNat = 0 := rfl
        rw [hz]
        cases hct : b.ct with
        | cols cs => simp [Ct.cells, RCs]
        | list l =>
          rw [hct] at hnil
          have : l = [] := by simpa [nilOK] using hnil
          subst this
          simp [Ct.cells, RCs]
  · intro j j' hj hj' hne q hq hq'
    have hat : ∀ i, (rho c σ i).ownBlock = some q → ∃ r, lookN σ i = some (some r) ∧ (c.r r).ownBlock = some q := fun i h => by
      unfold rho at h
      split at h
      · rename_i r hr; exact ⟨r, hr, h⟩
      · cases h
    obtain ⟨r, hr, hq⟩ := hat j hq
    obtain ⟨r', hr', hq'⟩ := hat j' hq'
    have row : ∀ i r, i < (k.rows us os).length → lookN σ i = some (some r) → ∃ b, s.rows[r]? = some b ∧ b.live = true := fun i r hi hr => by
      obtain ⟨_, h⟩ := hget i _ (List.getElem?_eq_getElem hi)
      rw [Nat.zero_add] at h
      rcases h with ⟨r2, b', h2, hb', hl, _⟩ | ⟨h2, _, _⟩
      · rw [hr] at h2
        obtain rfl := Option.some.inj (Option.some.inj h2)
        exact ⟨b', hb', hl⟩
      · rw [hr] at h2; cases h2
    obtain ⟨b, hb, hl⟩ := row j r hj hr
    obtain ⟨b', hb', hl'⟩ := row j' r' hj' hr'
    exact hh.rdist r r' b b' hb hb' hl hl' (fun e => hne (nodupB_sound hnd hr (by rw [e]; exact hr'))) q hq hq'
end
end Go.Dx
