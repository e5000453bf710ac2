/- More operations. -/
import Derived.Test.YtkhbodngiodklaaDxQ
set_option linter.all false
namespace Go.Dx
open Go Go.RowKit
section
variable {P : Program} {T : TypeId → TI} (hT : TabOK P T) {w0 : World} {fp : Nat → Prop} {c : C} {s : S} {a : Act}

include hT
theorem indexAddr_sound (h : Holds w0 fp c s a) {t : TypeId} {x ix v : V} {u u' : Value} {s' : S} (hx : RV c x u) (hix : RV c ix u') (hop : opIndexAddr T s t x ix = .ok v s') (hn : needsOK s'.needs) :
    Tells P w0 fp c s' a .free (fun w => (Instr.indexAt t u u').run P w) v := by
  have hd := hT.desc t
  unfold opIndexAddr at hop
  split at hop
  · -- a local array
    rename_i _ _ v' o k i n e hde
    rw [hde] at hd
    have hd' : P.underlying t = some (.array n e) := hd
    split at hop
    · rename_i hc
      obtain ⟨rfl, rfl⟩ := R.ok.inj hop
      simp only [RV, RC] at hx hix
      obtain ⟨hlt, rfl⟩ := hx
      subst hix
      refine h.still (u := .pointer (some ⟨c.g v', o + i.toNat * (T e).size, none⟩)) ?_ (by simp only [RV, RC]; exact ⟨hlt, trivial⟩)
      intro w' _
      simp only [Instr.indexAt, asIntOf, Sem.run_bind, Sem.run_pure, Result.andThen_ok, run_underlying hd' w', Instr.sureAddr, I.val, if_pos (And.intro hc.1 hc.2.1), hT.run_size hc.2.2, Addr.add_lit]
    · cases hop
  · -- a slice that is read
    rename_i _ _ n sz cs k i e hde
    rw [hde] at hd
    have hd' : P.underlying t = some (.slice e) := hd
    split at hop
    · rename_i hsz
      simp only [Bool.and_eq_true, beq_iff_eq, decide_eq_true_eq] at hsz
      obtain ⟨⟨hsz, hsz0⟩, hok⟩ := hsz
      have key : 0 ≤ i.val ∧ i.val < n.val ∧ v = .rp n sz cs i 0 ∧ s'.tmps = s.tmps ∧ s'.vars = s.vars ∧ s'.rows = s.rows := by
        split at hop
        · split at hop
          · rename_i hc
            obtain ⟨rfl, rfl⟩ := R.ok.inj hop
            exact ⟨hc.1, hc.2, rfl, rfl, rfl, rfl⟩
          · cases hop
        · obtain ⟨rfl, rfl⟩ := R.ok.inj hop
          exact ⟨hn.1.1, hn.1.2, rfl, rfl, rfl, rfl⟩
      obtain ⟨h0, h1, rfl, e1, e2, e3⟩ := key
      have hs' : Holds w0 fp c s' a := by
        have := h.needs s'.needs
        rw [← e1, ← e2, ← e3] at this
        exact this
      simp only [RV, RC, roR] at hx hix
      obtain ⟨A, cp, rfl, g0, g1, g2, g3⟩ := hx
      subst hix
      · obtain ⟨ad, rfl, hF, _⟩ := g3 i.val.toNat 0 (by omega) hsz0
        refine hs'.still (u := .pointer (some (ad.add (i.val.toNat * sz + 0)))) ?_ ?_
        · intro w' _
          simp only [Instr.indexAt, asIntOf, Sem.run_bind, Sem.run_pure, Result.andThen_ok, run_underlying hd' w']
          rw [if_pos ⟨h0, by omega⟩]
          simp [hT.run_size hok, hsz]
        · simp only [RV, RC]
          refine ⟨ad, rfl, h0, h1, hF, fun i' j' hi hj => ?_⟩
          obtain ⟨a', ea, _, q⟩ := g3 i' j' hi hj
          obtain rfl := Option.some.inj ea
          exact q
    · cases hop
  · -- a row of one's own
    rename_i _ _ r k i e hde
    rw [hde] at hd
    have hd' : P.underlying t = some (.slice e) := hd
    cases hb : s.rows[r]? with
    | none => simp [hb] at hop
    | some b =>
      simp only [hb] at hop
      split at hop
      · rename_i hcond
        simp only [Bool.and_eq_true, beq_iff_eq] at hcond
        obtain ⟨⟨hlive, hsz⟩, hok⟩ := hcond
        have key : 0 ≤ i.val ∧ i.val < b.n.val ∧ v = .op r b.sz i 0 ∧ s'.tmps = s.tmps ∧ s'.vars = s.vars ∧ s'.rows = s.rows := by
          split at hop
          · rename_i hbn
            split at hop
            · rename_i hc
              obtain ⟨rfl, rfl⟩ := R.ok.inj hop
              exact ⟨hc.1, by rw [hbn]; exact hc.2, rfl, rfl, rfl, rfl⟩
            · cases hop
          · obtain ⟨rfl, rfl⟩ := R.ok.inj hop
            exact ⟨hn.1.1, hn.1.2, rfl, rfl, rfl, rfl⟩
        obtain ⟨h0, h1, rfl, e1, e2, e3⟩ := key
        have hs' : Holds w0 fp c s' a := by
          have := h.needs s'.needs
          rw [← e1, ← e2, ← e3] at this
          exact this
        obtain ⟨us, hown, _⟩ := (h.rows r b hb hlive).at_
        simp only [RV, RC] at hx hix
        obtain ⟨hlt, rfl, _⟩ := hx
        subst hix
        rcases hown.2 with ⟨_, hz⟩ | ⟨g, cap, cur, hv, _⟩
        · omega
        · refine hs'.still (u := .pointer (some ⟨g, i.val.toNat * b.sz + 0, none⟩)) ?_ ?_
          · rw [hv]
            intro w' _
            simp only [Instr.indexAt, asIntOf, Sem.run_bind, Sem.run_pure, Result.andThen_ok, run_underlying hd' w']
            rw [if_pos ⟨h0, by omega⟩]
            simp [hT.run_size hok, hsz, Addr.add_lit]
          · simp only [RV]
            exact ⟨hlt, g, _, cap, hv, h0, by omega, rfl⟩
      · cases hop
  · -- a part of a row of one's own
    rename_i _ _ r sz lo n k i e hde
    rw [hde] at hd
    have hd' : P.underlying t = some (.slice e) := hd
    split at hop
    case isFalse => cases hop
    rename_i hcond
    simp only [Bool.and_eq_true, beq_iff_eq] at hcond
    obtain ⟨hsz, hok⟩ := hcond
    have key : 0 ≤ i.val ∧ i.val < n.val ∧ v = .op r sz (addI lo i) 0 ∧ s'.tmps = s.tmps ∧ s'.vars = s.vars ∧ s'.rows = s.rows := by
      split at hop
      · split at hop
        · rename_i hc
          obtain ⟨rfl, rfl⟩ := R.ok.inj hop
          exact ⟨hc.1, hc.2, rfl, rfl, rfl, rfl⟩
        · cases hop
      · obtain ⟨rfl, rfl⟩ := R.ok.inj hop
        exact ⟨hn.1.1, hn.1.2, rfl, rfl, rfl, rfl⟩
    obtain ⟨h0, h1, rfl, e1, e2, e3⟩ := key
    have hs' : Holds w0 fp c s' a := by
      have := h.needs s'.needs
      rw [← e1, ← e2, ← e3] at this
      exact this
    simp only [RV, RC] at hx hix
    obtain ⟨hlt, A, m, cap, A', cp, hr, hA, l0, n0, hm, rfl, hcp, hcpm, hA'⟩ := hx
    subst hix
    -- the row lies somewhere
    obtain ⟨g, rfl⟩ : ∃ g, A = some ⟨g, 0, none⟩ := hA.resolve_left (by omega)
    refine hs'.still (u := .pointer (some ⟨g, (addI lo i).val.toNat * sz + 0, none⟩)) ?_ ?_
    · intro w' _
      rw [hA' (by omega)]
      simp only [Option.map_some, Instr.indexAt, asIntOf, Sem.run_bind, Sem.run_pure, Result.andThen_ok, run_underlying hd' w']
      rw [if_pos ⟨h0, by omega⟩]
      have ha : (addI lo i).val.toNat = lo.val.toNat + i.val.toNat := by rw [addI_val]; omega
      simp [hT.run_size hok, hsz, Addr.add_lit, ha, Nat.add_mul]
    · simp only [RV]
      exact ⟨hlt, g, m, cap, hr, by rw [addI_val]; omega, by rw [addI_val]; omega, rfl⟩
  · cases hop

theorem fieldAddr_sound (h : Holds w0 fp c s a) {t : TypeId} {x v : V} {u : Value} {s' : S} {f : Nat} {fs : List (Nat × TypeId)} {off e : Nat} (hx : RV c x u) (hd : (T t).d = .struct fs) (hf : fs[f]? = some (off, e))
    (hop : (match x with | .lp v o => R.ok (.lp v (o + off)) s | .rp n sz cs i j => .ok (.rp n sz cs i (j + off)) s | .op r sz i j => .ok (.op r sz i (j + off)) s | _ => .stuck) = .ok v s') :
    s' = s ∧ Tells P w0 fp c s a .free (fun w => (Instr.fieldAt t u f).run P w) v := by
  have hdt := hT.desc t
  rw [hd] at hdt
  obtain ⟨hd1, hd2, hd3⟩ := hdt
  subst hd2
  simp only [List.getElem?_map, Option.map_eq_some_iff] at hf
  obtain ⟨fl, hfl, he⟩ := hf
  simp only [Prod.mk.injEq] at he
  obtain ⟨rfl, rfl⟩ := he
  have hfa : (P.fieldsOf t)[f]? = some fl := by simpa using hfl
  have hsz : ∃ i, P.info? fl.type = some i ∧ i.size ≠ 0 := by
    have := List.all_eq_true.1 hd3 fl (List.mem_of_getElem? hfl)
    simp only [Option.any_eq_true_iff_get] at this
    obtain ⟨h1, h2⟩ := this
    exact ⟨_, (Option.some_get h1).symm, by simpa using h2⟩
  obtain ⟨i, hi, hne⟩ := hsz
  have run : ∀ (ad : Addr) (w' : World), Ext c.w w' → (Instr.fieldAt t (.pointer (some ad)) f).run P w' = .ok (.pointer (some (ad.add fl.offset))) w' := fun ad w' _ => by
    simp [Instr.fieldAt, run_underlying hd1, hfa, Instr.sureAddr, fieldPlace, sizeOf, typeInfo, hi, hne]
  cases x with
  | lp v' o =>
    obtain ⟨rfl, rfl⟩ := R.ok.inj hop
    simp only [RV, RC] at hx
    obtain ⟨hlt, rfl⟩ := hx
    exact ⟨rfl, h.still (run _) (by simp only [RV, RC, Addr.add_lit]; exact ⟨hlt, trivial⟩)⟩
  | rp n sz cs i' j =>
    obtain ⟨rfl, rfl⟩ := R.ok.inj hop
    simp only [RV, RC] at hx
    obtain ⟨ad, rfl, h0, h1, hF, hc⟩ := hx
    exact ⟨rfl, h.still (run _) (by simp only [RV, RC, add_add', Nat.add_assoc]; exact ⟨ad, rfl, h0, h1, hF, hc⟩)⟩
  | op r sz i' j =>
    obtain ⟨rfl, rfl⟩ := R.ok.inj hop
    simp only [RV] at hx
    obtain ⟨hlt, g, n, cap, hr, h0, h1, rfl⟩ := hx
    exact ⟨rfl, h.still (run _) (by simp only [RV, Addr.add_lit, Nat.add_assoc]; exact ⟨hlt, g, n, cap, hr, h0, h1, rfl⟩)⟩
  | _ => cases hop
end
end Go.Dx
