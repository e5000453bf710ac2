/- Contracts: what is read at a call, and what is shown at the end. -/
import Derived.Test.YtkhbodngiodklaaDyC
set_option linter.all false
namespace Go.Dx
open Go Go.RowKit

/-! ### Shapes, read and made -/
theorem FSh.rd_spec {a : FSh} {z : Bool} {d : Col} {us : List U} (h : a.rd z d = some us) : us.map U.kn = [a.kn] ∧ ∀ l, ∃ p, a.mk (us ++ l) = (p, l) ∧ (z = false → Col.f p = d) := by
  unfold FSh.rd at h
  split at h
  · split at h
    · rename_i hk
      obtain rfl := eq_of_beq hk
      obtain rfl := Option.some.inj h
      exact ⟨rfl, fun l => ⟨_, rfl, fun _ => rfl⟩⟩
    · cases h
  · obtain rfl := Option.some.inj h; exact ⟨rfl, fun l => ⟨_, rfl, fun _ => rfl⟩⟩
  · obtain rfl := Option.some.inj h; exact ⟨rfl, fun l => ⟨_, rfl, fun _ => rfl⟩⟩
  all_goals
    split at h
    · rename_i hz
      obtain rfl := Option.some.inj h
      exact ⟨rfl, fun l => ⟨_, rfl, fun h0 => by rw [hz] at h0; cases h0⟩⟩
    · cases h
theorem FSh.rds2_spec : ∀ {as : List FSh} {ds : List FCol2} {us : List U}, FSh.rds2 as ds = some us → us.map U.kn = as.map FSh.kn2 ∧ ∀ l, FSh.mks2 as (us ++ l) = (ds, l)
  | [], [], us, h => by
    obtain rfl := Option.some.inj h
    exact ⟨rfl, fun l => rfl⟩
  | .i k :: as, .i k' f :: ds, us, h => by
    simp only [FSh.rds2] at h
    split at h
    case isFalse => cases h
    rename_i hk
    obtain rfl := eq_of_beq hk
    obtain ⟨vs, hv, rfl⟩ := Option.map_eq_some_iff.1 h
    obtain ⟨h1, h2⟩ := FSh.rds2_spec hv
    exact ⟨by simp [U.kn, FSh.kn2, h1], fun l => by simp [FSh.mks2, FSh.mk2, h2]⟩
  | .b :: as, .b f :: ds, us, h => by
    obtain ⟨vs, hv, rfl⟩ := Option.map_eq_some_iff.1 h
    obtain ⟨h1, h2⟩ := FSh.rds2_spec hv
    exact ⟨by simp [U.kn, FSh.kn2, h1], fun l => by simp [FSh.mks2, FSh.mk2, h2]⟩
  | .s :: as, .s f :: ds, us, h => by
    obtain ⟨vs, hv, rfl⟩ := Option.map_eq_some_iff.1 h
    obtain ⟨h1, h2⟩ := FSh.rds2_spec hv
    exact ⟨by simp [U.kn, FSh.kn2, h1], fun l => by simp [FSh.mks2, FSh.mk2, h2]⟩
  | [], _ :: _, us, h => by simp [FSh.rds2] at h
  | .i _ :: _, [], us, h | .b :: _, [], us, h | .s :: _, [], us, h => by simp [FSh.rds2] at h
  | .i _ :: _, .b _ :: _, us, h | .i _ :: _, .s _ :: _, us, h | .b :: _, .i _ _ :: _, us, h | .b :: _, .s _ :: _, us, h | .s :: _, .i _ _ :: _, us, h | .s :: _, .b _ :: _, us, h => by simp [FSh.rds2] at h
theorem CSh.rd_spec {a : CSh} {z : Bool} {d : Col} {us : List U} (h : a.rd z d = some us) : us.map U.kn = a.kn ∧ ∀ l, ∃ p, a.mk (us ++ l) = (p, l) ∧ (z = false → p = d) := by
  cases a with
  | f c =>
    obtain ⟨h1, h2⟩ := FSh.rd_spec h
    refine ⟨h1, fun l => ?_⟩
    obtain ⟨p, e, hp⟩ := h2 l
    exact ⟨.f p, by simp [CSh.mk, e], hp⟩
  | sl fs =>
    cases d with
    | sl n cs =>
      simp only [CSh.rd] at h
      obtain ⟨vs, hv, rfl⟩ := Option.map_eq_some_iff.1 h
      obtain ⟨h1, h2⟩ := FSh.rds2_spec hv
      exact ⟨by simp [U.kn, CSh.kn, h1], fun l => ⟨.sl n cs, by simp [CSh.mk, h2], fun _ => rfl⟩⟩
    | _ => simp [CSh.rd] at h
theorem CSh.rds_spec {z : Bool} : ∀ {as : List CSh} {ds : List Col} {us : List U}, CSh.rds z as ds = some us → us.map U.kn = CSh.kns as ∧ ∀ l, ∃ cs, CSh.mks as (us ++ l) = (cs, l) ∧ (z = false → ∀ j, j < as.length → cs.getD j .j = ds.getD j .j)
  | [], ds, us, h => by
    obtain rfl := Option.some.inj h
    exact ⟨rfl, fun l => ⟨[], rfl, fun _ j hj => by simp at hj⟩⟩
  | a :: as, ds, us, h => by
    simp only [CSh.rds] at h
    split at h
    case h_2 => cases h
    rename_i us1 us2 h1 h2
    obtain rfl := Option.some.inj h
    obtain ⟨k1, m1⟩ := CSh.rd_spec h1
    obtain ⟨k2, m2⟩ := CSh.rds_spec h2
    refine ⟨by simp [CSh.kns, k1, k2], fun l => ?_⟩
    obtain ⟨p, e1, hp⟩ := m1 (us2 ++ l)
    obtain ⟨cs, e2, hc⟩ := m2 l
    refine ⟨p :: cs, by simp [CSh.mks, List.append_assoc, e1, e2], fun hz j hj => ?_⟩
    cases j with
    | zero => rw [List.getD_cons_zero, hp hz]; cases ds <;> rfl
    | succ j =>
      rw [List.getD_cons_succ, hc hz j (by simpa using hj)]
      cases ds <;> simp
theorem getC_cell {c : C} {F : Nat → Prop} (hF : ∀ b, c.F b → F b) {cs : List Col} {i j : Nat} {u : Value} (h : RC c (getC cs i j) u) : RCell (argC c.w F) (getC cs i j) u := by
  unfold getC at *
  cases hc : cs.getD j .j with
  | f d => rw [hc] at h; cases d <;> simpa only [Col.at, FCol.at, RC, RCell, RFl] using h
  | j => simp [Col.at, RCell, RFl]
  | sl n ds =>
    rw [hc] at h
    simp only [Col.at, RC, RCell] at h ⊢
    obtain ⟨A, cp, e, h0, h1, h2, h3⟩ := h
    refine ⟨A, cp, e, h0, h1, h2, fun i' j' hi hj => ?_⟩
    obtain ⟨a, ea, hFa, u', hu, ho, hq⟩ := h3 i' j' hi hj
    refine ⟨a, ea, hF _ hFa, u', hu, ho, ?_⟩
    unfold getC at hq ⊢
    by_cases hj' : j' < ds.length
    · simp only [List.getD, List.getElem?_map, List.getElem?_eq_getElem hj', Option.map_some, Option.getD_some] at hq ⊢
      generalize ds[j'] = d at hq ⊢
      cases d <;> simpa only [FCol2.at, Col.at, FCol.at, RCell, RFl] using hq
    · simp [List.getD, List.getElem?_eq_none (show ds.length ≤ j' by omega), Col.at, RFl]

section
variable {P : Program} {T : TypeId → TI} {w0 : World} {fp : Nat → Prop} {c : C} {s t : S} {a : Act} {f : FuncId} {R : Ending → World → Prop}

theorem sameV_sound {F : Nat → Prop} {v w : V} {u : Value} (h : sameV w v = true) (hw : ∀ x o, w ≠ .lp x o) (hr : RV c v u) : RC (argC c.w F) w u := by
  unfold sameV at h
  split at h
  · simpa only [RV, RC] using hr
  · obtain rfl := eq_of_beq h
    simp only [RV, RC, RVs, RCs] at hr ⊢
    exact hr
  · rename_i x o _ _; exact absurd rfl (hw x o)
  · cases h
mutual
/-- No pointer is asked for. -/
def Sh.closed : Sh → Bool
  | .is (.lp _ _) => false
  | .agg l => Sh.closeds l
  | _ => true
def Sh.closeds : List Sh → Bool
  | [] => true
  | a :: l => a.closed && Sh.closeds l
end
mutual
theorem Sh.rd_sound (h : Holds w0 fp c s a) : ∀ (sh : Sh) (v : V) (us : List U), sh.closed = true → sh.rd s v = some us → us.map U.kn = sh.kn ∧ ∀ l, ∃ v', sh.mk (us ++ l) = (v', l) ∧ ∀ u, RV c v u → RC (argC c.w (lent c s)) v' u
  | .i k, v, us, _, hr => by
    simp only [Sh.rd] at hr
    split at hr
    · split at hr
      · rename_i hk
        obtain rfl := eq_of_beq hk
        obtain rfl := Option.some.inj hr
        exact ⟨rfl, fun l => ⟨.i k (.s _), rfl, fun u hu => by simp only [RV, RC] at hu ⊢; exact hu⟩⟩
      · cases hr
    · cases hr
  | .b, v, us, _, hr => by
    simp only [Sh.rd] at hr
    split at hr
    · obtain rfl := Option.some.inj hr
      exact ⟨rfl, fun l => ⟨.b (.s _), rfl, fun u hu => by simp only [RV, RC] at hu ⊢; exact hu⟩⟩
    · cases hr
  | .s, v, us, _, hr => by
    simp only [Sh.rd] at hr
    split at hr
    · obtain rfl := Option.some.inj hr
      exact ⟨rfl, fun l => ⟨_, rfl, fun u hu => by simpa only [RV, RC] using hu⟩⟩
    · cases hr
  | .ro cols, v, us, _, hr => by
    simp only [Sh.rd] at hr
    split at hr
    case h_2 => cases hr
    rename_i n ct ht
    obtain ⟨vs, hv, rfl⟩ := Option.map_eq_some_iff.1 hr
    obtain ⟨hk, hm⟩ := CSh.rds_spec hv
    refine ⟨by simp [U.kn, Sh.kn, hk], fun l => ?_⟩
    obtain ⟨cs, e, hcs⟩ := hm l
    refine ⟨.ro (.s n.val) cols.length cs, by simp only [List.cons_append, Sh.mk, e], fun u hu => ?_⟩
    rcases Nat.eq_zero_or_pos cols.length with hz | hpos
    · -- cells of no size
      have key : ∃ A cp, u = .slice A n.val.toNat cp ∧ 0 ≤ n.val ∧ n.val.toNat ≤ cp ∧ cp ≤ maxLen := by
        unfold tailOf at ht
        split at ht
        · obtain ⟨rfl, rfl⟩ := Prod.mk.inj (Option.some.inj ht)
          simp only [RV, RC] at hu
          exact ⟨none, 0, by rw [hu]; rfl, by simp [I.val], by simp [I.val], by simp⟩
        · rename_i r
          cases hb : s.rows[r]? with
          | none => simp [hb] at ht
          | some b =>
            simp only [hb] at ht
            split at ht
            case isFalse => cases ht
            rename_i hcond
            simp only [Bool.and_eq_true, beq_iff_eq] at hcond
            obtain ⟨rfl, rfl⟩ := Prod.mk.inj (Option.some.inj ht)
            have hrr := h.rows r b hb hcond.1
            obtain ⟨us', ho, _⟩ := hrr.at_
            simp only [RV] at hu
            obtain ⟨_, rfl, _⟩ := hu
            rcases ho.2 with ⟨hv, hz⟩ | ⟨g, cap, cur, hv, _, _, hcap, hcm, _⟩
            · exact ⟨none, 0, by rw [hv, hz], hrr.nonneg, by omega, by simp⟩
            · exact ⟨_, cap, hv, hrr.nonneg, hcap, hcm⟩
        · rename_i r sz' lo n'
          cases hb : s.rows[r]? with
          | none => simp [hb] at ht
          | some b =>
            simp only [hb] at ht
            split at ht
            case isFalse => cases ht
            simp only [RV] at hu
            obtain ⟨_, _, _, _, A', cp, _, _, _, n0, _, rfl, q1, q2, _⟩ := hu
            have : n = n' := by
              split at ht
              · split at ht
                · exact (Prod.mk.inj (Option.some.inj ht)).1.symm
                · cases ht
              · exact (Prod.mk.inj (Option.some.inj ht)).1.symm
            subst this
            exact ⟨A', cp, rfl, n0, q1, q2⟩
        · rename_i n' sz' cs'
          split at ht
          case isFalse => cases ht
          obtain ⟨rfl, rfl⟩ := Prod.mk.inj (Option.some.inj ht)
          simp only [RV, RC, roR] at hu
          obtain ⟨A, cp, e, q0, q1, q2, _⟩ := hu
          exact ⟨A, cp, e, q0, q1, q2⟩
        · cases ht
      obtain ⟨A, cp, e', q0, q1, q2⟩ := key
      simp only [RC, roR, I.val]
      exact ⟨A, cp, e', q0, q1, q2, fun i j _ hj => by omega⟩
    · obtain ⟨A, cp, news, rfl, h0, h1, hl, hA, hcell, hrc, hone, hcm, hlent⟩ := tailOf_sound h hu hpos ht
      have hcols := Ct.cols'_sound hl hrc
      simp only [RC, roR, I.val]
      refine ⟨A, cp, rfl, h0, h1, hcm, fun i j hi hj => ?_⟩
      have hi' : i < n.val.toNat := hi
      have hz : zeroI n = false := by
        unfold zeroI
        split
        · rename_i z; simp only [I.val] at hi'; simp; omega
        · rfl
      obtain ⟨u', hu', hq⟩ := RCs_flat_get hcols hi' hj
      obtain ⟨ad, rfl⟩ : ∃ ad, A = some ad := by
        cases A with
        | none => have := hA rfl; omega
        | some ad => exact ⟨ad, rfl⟩
      refine ⟨ad, rfl, hlent ad rfl (by omega), u', hcell ad rfl _ _ hu', hone _ (List.mem_of_getElem? hu'), ?_⟩
      have : getC cs i j = getC (ct.cols' cols.length) i j := by unfold getC; rw [hcs hz j hj]
      rw [this]
      exact getC_cell (fun b hb => .inl hb) hq
  | .agg shs, v, us, hc, hr => by
    simp only [Sh.rd] at hr
    split at hr
    · obtain ⟨hk, hm⟩ := Sh.rds_sound h shs _ us (by simpa only [Sh.closed] using hc) hr
      refine ⟨by simpa only [Sh.kn] using hk, fun l => ?_⟩
      obtain ⟨vs', e, hs⟩ := hm l
      refine ⟨.agg vs', by simp only [Sh.mk, e], fun u hu => ?_⟩
      simp only [RV, RC] at hu ⊢
      obtain ⟨us', e', hq⟩ := hu
      exact ⟨us', e', hs _ hq⟩
    · cases hr
  | .is w, v, us, hc, hr => by
    simp only [Sh.rd] at hr
    split at hr
    · rename_i hw
      obtain rfl := Option.some.inj hr
      exact ⟨rfl, fun l => ⟨w, rfl, fun u hu => sameV_sound hw (fun x o e => by subst e; simp [Sh.closed] at hc) hu⟩⟩
    · cases hr
theorem Sh.rds_sound (h : Holds w0 fp c s a) : ∀ (shs : List Sh) (vs : List V) (us : List U), Sh.closeds shs = true → Sh.rds s shs vs = some us → us.map U.kn = Sh.kns shs ∧ ∀ l, ∃ vs', Sh.mks shs (us ++ l) = (vs', l) ∧ ∀ ws, RVs c vs ws → RCs (argC c.w (lent c s)) vs' ws
  | [], [], us, _, hr => by
    obtain rfl := Option.some.inj hr
    exact ⟨rfl, fun l => ⟨[], rfl, fun ws hw => by simpa only [RVs, RCs] using hw⟩⟩
  | sh :: shs, v :: vs, us, hc, hr => by
    simp only [Sh.rds] at hr
    simp only [Sh.closeds, Bool.and_eq_true] at hc
    split at hr
    case h_2 => cases hr
    rename_i us1 us2 h1 h2
    obtain rfl := Option.some.inj hr
    obtain ⟨k1, m1⟩ := Sh.rd_sound h sh v us1 hc.1 h1
    obtain ⟨k2, m2⟩ := Sh.rds_sound h shs vs us2 hc.2 h2
    refine ⟨by simp [Sh.kns, k1, k2], fun l => ?_⟩
    obtain ⟨v', e1, q1⟩ := m1 (us2 ++ l)
    obtain ⟨vs', e2, q2⟩ := m2 l
    refine ⟨v' :: vs', by simp [Sh.mks, List.append_assoc, e1, e2], fun ws hw => ?_⟩
    simp only [RVs, RCs] at hw ⊢
    obtain ⟨u, ws', e, r1, r2⟩ := hw
    exact ⟨u, ws', e, q1 _ r1, q2 _ r2⟩
  | [], _ :: _, us, _, hr => by simp [Sh.rds] at hr
  | _ :: _, [], us, _, hr => by simp [Sh.rds] at hr
end

/-- New rows, behind a call. -/
theorem Holds.back (h : Holds w0 fp c s a) {w' : World} {ρ : Nat → Value} {rows : List Row} (hs : Same c.w w') (hrows : ∀ r b, rows[r]? = some b → NewRow c.w w' ρ rows.length r b)
    (hdist : ∀ r r', r < rows.length → r' < rows.length → r ≠ r' → ∀ k, (ρ r).ownBlock = some k → (ρ r').ownBlock ≠ some k) :
    ∃ c' : C, c'.w = w' ∧ Holds w0 fp c' { s with rows := s.rows ++ rows } a ∧ (∀ x, x < rows.length → c'.r (s.rows.length + x) = ρ x) ∧ c'.nr = s.rows.length + rows.length := by
  let c' : C := { c with w := w', r := fun x => if x < c.nr then c.r x else ρ (x - c.nr), nr := c.nr + rows.length }
  have rold : ∀ x, x < c.nr → c'.r x = c.r x := fun x hx => by simp [c', hx]
  have rnew : ∀ x, c'.r (c.nr + x) = ρ x := fun x => by show (if c.nr + x < c.nr then _ else ρ (c.nr + x - c.nr)) = ρ x; rw [if_neg (by omega), Nat.add_sub_cancel_left]
  have old := hs.block
  have le : c.Le c' := { F := fun _ h => h, cell := fun ad ha => World.cell?_of_block (old _ (h.flt _ ha)), g := fun _ _ => rfl, nv := Nat.le_refl _, r := rold, nr := Nat.le_add_right _ _ }
  have hgb : c.w.grownBy w' none := ⟨hs.os, hs.tape, hs.output, hs.size, fun k hk _ => old k hk⟩
  have newlo : ∀ r b, rows[r]? = some b → ∀ k, (ρ r).ownBlock = some k → c.w.heap.size ≤ k := fun r b hb k hk => by
    obtain ⟨us, ho, _⟩ := (hrows r b hb).at_
    exact (ho.lt k hk).1
  have oldlt : ∀ q b, s.rows[q]? = some b → b.live = true → ∀ k, (c.r q).ownBlock = some k → k < c.w.heap.size := fun q b hb hl k hk => by
    obtain ⟨us', ho', _⟩ := (h.rows q b hb hl).at_
    exact own_blk_lt ho' hk
  refine ⟨c', rfl, ?_, fun x _ => by rw [← h.nr]; exact rnew x, by show c.nr + _ = _; rw [h.nr]⟩
  refine { kept := fun k hk hf => (old k (Nat.lt_of_lt_of_le hk h.size)).trans (h.kept k hk hf), size := Nat.le_trans h.size hs.size, os := hs.os.trans h.os, tape := hs.tape.trans h.tape, output := hs.output.trans h.output, tmps := RVs.le le _ _ h.tmps, defers := h.defers, nv := h.nv, nr := by show c.nr + _ = _; simp [h.nr], vars := ?_, vdist := h.vdist, rows := ?_, rdist := ?_, flt := fun b hb => Nat.lt_of_lt_of_le (h.flt b hb) hs.size }
  · intro x b hb
    have hv := h.vars x b hb
    obtain ⟨us', hu, hr⟩ := hv.at_
    exact ⟨⟨us', (old _ (h.gblt x (h.var_lt hb))).trans hu, RVs.le le _ _ hr⟩, hv.mine, hv.notF⟩
  · intro r b hb hl
    simp only [List.getElem?_append] at hb
    split at hb
    · rename_i hx
      have hx' : r < c.nr := by rw [h.nr]; exact hx
      have hr := h.rows r b hb hl
      obtain ⟨us', ho', hc', h1'⟩ := hr.at_
      exact ⟨⟨us', by rw [rold r hx']; exact ho'.kept hgb (by cases hv : (c.r r).ownBlock <;> simp), RCs.le le.toLe0 _ _ hc', h1'⟩, hr.nonneg, fun k hk => by rw [rold r hx'] at hk; exact hr.mine k hk⟩
    · rename_i hx
      obtain ⟨q, rfl⟩ : ∃ q, r = c.nr + q := ⟨r - c.nr, by rw [h.nr]; omega⟩
      have hb' : rows[q]? = some b := by rw [h.nr] at hb; simpa using hb
      have hn := hrows q b hb'
      obtain ⟨us, ho, hc', h1⟩ := hn.at_
      refine ⟨⟨us, by rw [rnew]; exact ownsRow_base0 ho, RCs.ofRes _ _ hc', h1⟩, hn.nonneg, fun k hk => ?_⟩
      rw [rnew] at hk
      have hlo := newlo q b hb' k hk
      exact ⟨.inl (Nat.le_trans h.size hlo), fun hf => by have := h.flt k hf; omega, fun x hx => by have := h.gblt x hx; show c.g x ≠ k; omega⟩
  · intro r r' b b' hb hb' hl hl' hne k hk hk'
    simp only [List.getElem?_append] at hb hb'
    split at hb <;> split at hb'
    · rename_i q1 q2
      rw [rold r (by rw [h.nr]; exact q1)] at hk
      rw [rold r' (by rw [h.nr]; exact q2)] at hk'
      exact h.rdist r r' b b' hb hb' hl hl' hne k hk hk'
    · rename_i q1 q2
      obtain ⟨q, rfl⟩ : ∃ q, r' = c.nr + q := ⟨r' - c.nr, by rw [h.nr]; omega⟩
      have hq : rows[q]? = some b' := by rw [h.nr] at hb'; simpa using hb'
      rw [rold r (by rw [h.nr]; exact q1)] at hk
      rw [rnew] at hk'
      have := oldlt r b hb hl k hk
      have := newlo q b' hq k hk'
      omega
    · rename_i q1 q2
      obtain ⟨q, rfl⟩ : ∃ q, r = c.nr + q := ⟨r - c.nr, by rw [h.nr]; omega⟩
      have hq : rows[q]? = some b := by rw [h.nr] at hb; simpa using hb
      rw [rnew] at hk
      rw [rold r' (by rw [h.nr]; exact q2)] at hk'
      have := oldlt r' b' hb' hl' k hk'
      have := newlo q b hq k hk
      omega
    · rename_i q1 q2
      obtain ⟨q, rfl⟩ : ∃ q, r = c.nr + q := ⟨r - c.nr, by rw [h.nr]; omega⟩
      obtain ⟨q', rfl⟩ : ∃ q, r' = c.nr + q := ⟨r' - c.nr, by rw [h.nr]; omega⟩
      have hq : rows[q]? = some b := by rw [h.nr] at hb; simpa using hb
      have hq' : rows[q']? = some b' := by rw [h.nr] at hb'; simpa using hb'
      rw [rnew] at hk hk'
      exact hdist q q' (List.getElem?_eq_some_iff.1 hq).1 (List.getElem?_eq_some_iff.1 hq').1 (by omega) k hk hk'


/-- A contract: shapes of what comes in, names for what goes out. -/
structure Con where
  args : List Sh
  pre : List U → Prop
  outs : List Kn
  post : List U → List U → Prop
  ret : List U → List U → V
  rows : List U → List U → List Row
def Con.ok (P : Program) (g : FuncId) (k : Con) : Prop :=
  ∀ us, us.map U.kn = Sh.kns k.args → k.pre us → Ctr P g (Sh.mks k.args us).1 (fun ret rows => ∃ os, os.map U.kn = k.outs ∧ k.post us os ∧ ret = k.ret us os ∧ rows = k.rows us os)
/-- A call, by its contract. -/
theorem CallGood.of {g : FuncId} {args : List V} {dst : Option Nat} {ask : Bool} {its : List It} {k : Con} {us : List U} (hcall : Callable P g) (hk : k.ok P g) (hcl : Sh.closeds k.args = true) (hrd : Sh.rds s k.args args = some us) (hpre : k.pre us)
    (next : ∀ os, os.map U.kn = k.outs → k.post us os → GoesS P f w0 fp R its (({ s with rows := s.rows ++ k.rows us os } : S).put dst (shift s.rows.length (k.ret us os)))) : CallGood P f w0 fp R g args dst ask its s := by
  refine ⟨hcall, fun c a ws hh hws => ?_⟩
  have hlent : ∀ b, lent c s b → b < c.w.heap.size := fun b hb => by
    rcases hb with hb | ⟨r, row, hr, hl, hk⟩
    · exact hh.flt b hb
    · obtain ⟨us', ho', _⟩ := (hh.rows r row hr hl).at_
      exact own_blk_lt ho' hk
  obtain ⟨hkn, hm⟩ := Sh.rds_sound hh k.args args us hcl hrd
  obtain ⟨vs', e, hs⟩ := hm []
  rw [List.append_nil] at e
  have hctr := hk us hkn hpre c.w (lent c s) ws hlent (by rw [e]; exact hs _ hws)
  refine hctr.mono ?_
  rintro e w' ⟨u, rfl, hs, ρ, ret, rows, ⟨os, ho1, ho2, rfl, rfl⟩, hr, hrows, hdist⟩
  obtain ⟨c', rfl, hh', hrr, hnr⟩ := hh.back hs hrows hdist
  exact ⟨u, rfl, c', _, _, rfl, fun _ => ⟨hs.size, hs.block⟩, hh', RV.ofRes hrr (by rw [hnr]; exact Nat.le_refl _) _ _ hr, next os ho1 ho2⟩

/-- A contract is proved by going through the code. -/
theorem Ctr.of0 {g : FuncId} {fn : Func} {code : Code} {args : List V} {Q : V → List Row → Prop} (hfn : P.funcs[g]? = some fn) (hb : fn.body = some code)
    (h : ∀ w0, GoesS P g w0 (fun _ => False) (Back w0 Q) [.code code] ⟨args ++ List.replicate (fn.ntmps - args.length) (.v undef), [], [], []⟩) : Ctr P g args Q := by
  intro w F us hF hargs
  have hlen := (RVs.of_RCs _ _ hargs).length
  refine Calls.of_goes hfn hb (h w (.items [.code code]) (argC w F) _ rfl ?_)
  have hrep : ∀ n, RVs (argC w F) (List.replicate n (.v undef)) (List.replicate n undef) := fun n => by
    induction n with
    | zero => exact .nil
    | succ n ih => exact .cons (by simp only [RV, RC]) ih
  exact { kept := fun _ _ _ => rfl, size := Nat.le_refl _, os := rfl, tape := rfl, output := rfl, tmps := by
            simp only [Array.toList_append, Array.toList_replicate, List.size_toArray]
            rw [hlen]
            exact (RVs.of_RCs _ _ hargs).append (hrep _)
          defers := rfl, nv := rfl, nr := rfl, vars := fun x b h => by simp at h, vdist := fun x y hx => by simp [argC] at hx, rows := fun r b h => by simp at h, rdist := fun r r' b b' h => by simp at h, flt := hF }


def packV : List V → V
  | [v] => v
  | vs => .tup vs
theorem pack_RV {c : C} {vs : List V} {us : List Value} (h : RVs c vs us) : RV c (packV vs) (pack us) := by
  match vs, us, h with
  | [], us, h => simp only [RVs] at h; subst h; simp only [packV, pack, RV]; exact ⟨_, rfl, .nil⟩
  | [v], us, h =>
    simp only [RVs] at h
    obtain ⟨u, us', rfl, hu, rfl⟩ := h
    exact hu
  | v :: v' :: vs, us, h =>
    have h0 := h
    simp only [RVs] at h
    obtain ⟨u, us', rfl, hu, u', us2, rfl, hu', hs⟩ := h
    simp only [packV, pack, RV]
    exact ⟨_, rfl, by simpa using h0⟩

end

/-! ### The table of types -/
def noTI : TI := ⟨.other, 0, 0, .tuple #[], false, []⟩
def lookT : List (Nat × TI) → TypeId → TI
  | [], _ => noTI
  | (k, v) :: r, t => if t == k then v else lookT r t
def TabRow (P : Program) (p : Nat × TI) : Prop := descOK P p.1 p.2.d ∧ (p.2.ok = true → TIOK P p.2 p.1)
theorem lookT_ok {P : Program} : ∀ (l : List (Nat × TI)), (∀ p ∈ l, TabRow P p) → TabOK P (lookT l)
  | [], _ => ⟨fun t => trivial, fun t h => by cases h⟩
  | (k, v) :: r, h => by
    have ih := lookT_ok r (fun p hp => h p (by simp [hp]))
    have h0 := h (k, v) (by simp)
    refine ⟨fun t => ?_, fun t => ?_⟩
    · unfold lookT
      split
      · rename_i e
        simp only [beq_iff_eq] at e
        subst e
        exact h0.1
      · exact ih.desc t
    · unfold lookT
      split
      · rename_i e
        simp only [beq_iff_eq] at e
        subst e
        exact h0.2
      · exact ih.ok t


end Go.Dx
