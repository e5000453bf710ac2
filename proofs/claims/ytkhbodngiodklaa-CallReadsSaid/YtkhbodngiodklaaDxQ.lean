/- One operation, as the machine takes it, is what the model does. -/
import Derived.Test.YtkhbodngiodklaaDxC
set_option linter.all false
namespace Go.Dx
open Go Go.RowKit

section
variable {w0 : World} {fp : Nat → Prop} {c : C} {s : S} {a : Act}

def C.world (c : C) (w : World) : C := { c with w := w }
theorem Holds.gblt (h : Holds w0 fp c s a) : ∀ x, x < c.nv → c.g x < c.w.heap.size := fun x hx => by
  obtain ⟨b, hb⟩ : ∃ b, s.vars[x]? = some b := ⟨_, List.getElem?_eq_getElem (by rw [← h.nv]; exact hx)⟩
  obtain ⟨us', hu, _⟩ := (h.vars x b hb).at_
  exact (Array.getElem?_eq_some_iff.1 hu).1
theorem Holds.setVar (h : Holds w0 fp c s a) {x : Nat} {b : Var} (hb : s.vars[x]? = some b) {l : List V} {us : List Value} (hl : RVs c l us) :
    Holds w0 fp (c.world (c.w.setRow (c.g x) us.toArray)) { s with vars := s.vars.set x { b with cells := l } } a := by
  obtain ⟨us0, hu0, _⟩ := (h.vars x b hb).at_
  have old : ∀ k, k ≠ c.g x → (c.w.setRow (c.g x) us.toArray).heap[k]? = c.w.heap[k]? := fun k hk => setRow_other c.w _ _ _ hk
  have le : c.Le (c.world (c.w.setRow (c.g x) us.toArray)) :=
    { F := fun _ h => h, cell := fun a ha => World.cell?_of_block (old _ (fun e => (h.vars x b hb).notF (e ▸ ha))), g := fun _ _ => rfl, nv := Nat.le_refl _, r := fun _ _ => rfl, nr := Nat.le_refl _ }
  refine { kept := fun k hk hf => ?_, size := by simpa [C.world] using h.size, os := h.os, tape := h.tape, output := h.output, tmps := RVs.le le _ _ h.tmps, defers := h.defers, nv := by simp [C.world, h.nv], nr := h.nr, vars := ?_, vdist := h.vdist, rows := ?_, rdist := h.rdist, flt := fun b hb => by simpa [C.world] using h.flt b hb }
  · refine (old k ?_).trans (h.kept k hk hf)
    rcases (h.vars x b hb).mine with q | q
    · omega
    · exact fun e => hf (e ▸ q)
  · intro y b' hb'
    by_cases hxy : y = x
    · subst hxy
      have hlt := (List.getElem?_eq_some_iff.1 hb).1
      rw [List.getElem?_set_self hlt] at hb'
      obtain rfl := Option.some.inj hb'
      have hv := h.vars y b hb
      exact ⟨⟨us, setRow_heap c.w _ _ _ _ _ hu0, RVs.le le _ _ hl⟩, hv.mine, hv.notF⟩
    · rw [List.getElem?_set_ne (Ne.symm hxy)] at hb'
      have hv := h.vars y b' hb'
      obtain ⟨us', hu', hr'⟩ := hv.at_
      exact ⟨⟨us', (old _ (fun e => hxy (h.vdist y x (h.var_lt hb') (h.var_lt hb) e))).trans hu', RVs.le le _ _ hr'⟩, hv.mine, hv.notF⟩
  · intro r b' hb' hl'
    have hr := h.rows r b' hb' hl'
    obtain ⟨us', ho, hc, h1⟩ := hr.at_
    refine ⟨⟨us', ho.kept (row := some (c.g x)) ⟨rfl, rfl, rfl, by simp [C.world], fun k _ hk => old k (fun e => hk (by rw [e]))⟩ ?_, RCs.le le.toLe0 _ _ hc, h1⟩, hr.nonneg, hr.mine⟩
    right
    intro e
    exact (hr.mine _ e).2.2 x (h.var_lt hb) rfl
/-- A row of one's own that is written to. -/
theorem Holds.setRow (h : Holds w0 fp c s a) {r : Nat} {b : Row} {g cap n : Nat} {cur : Array Value} (hb : s.rows[r]? = some b) (hlive : b.live = true) (hr : c.r r = .slice (some ⟨g, 0, none⟩) n cap) {ct : Ct} {us : List Value}
    (hg : c.w.heap[g]? = some (.cells cur b.e (0, 0))) (hnc : n ≤ cap) (hcm : cap ≤ maxLen) (hcs : cur.size = cap * b.sz) (hn : n = b.n.val.toNat) (hl : us.length = n * b.sz) (hc : RCs c (ct.cells b.n.val.toNat b.sz) us) (hone : ∀ u ∈ us, u.oneCell' = true) :
    Holds w0 fp (c.world (c.w.setRow g (us ++ cur.toList.drop (n * b.sz)).toArray)) { s with rows := s.rows.set r { b with ct := ct } } a := by
  have hro := h.rows r b hb hlive
  have hmine := hro.mine g (by rw [hr]; rfl)
  have old : ∀ k, k ≠ g → (c.w.setRow g (us ++ cur.toList.drop (n * b.sz)).toArray).heap[k]? = c.w.heap[k]? := fun k hk => setRow_other c.w _ _ _ hk
  have le : c.Le (c.world (c.w.setRow g (us ++ cur.toList.drop (n * b.sz)).toArray)) :=
    { F := fun _ h => h, cell := fun a ha => World.cell?_of_block (old _ (fun e => hmine.2.1 (e ▸ ha))), g := fun _ _ => rfl, nv := Nat.le_refl _, r := fun _ _ => rfl, nr := Nat.le_refl _ }
  refine { kept := fun k hk hf => ?_, size := by simpa [C.world] using h.size, os := h.os, tape := h.tape, output := h.output, tmps := RVs.le le _ _ h.tmps, defers := h.defers, nv := h.nv, nr := by simp [C.world, h.nr], vars := ?_, vdist := h.vdist, rows := ?_, rdist := ?_, flt := fun b hb => by simpa [C.world] using h.flt b hb }
  · refine (old k ?_).trans (h.kept k hk hf)
    rcases hmine.1 with q | q
    · omega
    · exact fun e => hf (e ▸ q)
  · intro y b' hb'
    have hv := h.vars y b' hb'
    obtain ⟨us', hu', hr'⟩ := hv.at_
    exact ⟨⟨us', (old _ (hmine.2.2 y (h.var_lt hb'))).trans hu', RVs.le le _ _ hr'⟩, hv.mine, hv.notF⟩
  · intro r' b' hb' hl'
    by_cases e : r' = r
    · subst e
      rw [List.getElem?_set_self (by rw [← h.nr]; exact h.row_lt hb)] at hb'
      obtain rfl := Option.some.inj hb'
      refine ⟨⟨us, ⟨by rw [hl, hn], .inr ⟨g, cap, _, by rw [← hn]; exact hr, Nat.zero_le _, setRow_heap c.w g cur _ _ _ hg, by rw [← hn]; exact hnc, hcm, ?_, ?_⟩⟩, RCs.le le.toLe0 _ _ hc, hone⟩, hro.nonneg, hro.mine⟩
      · simp only [List.size_toArray, List.length_append, List.length_drop, Array.length_toList, hl, hcs]
        have := Nat.mul_le_mul_right b.sz hnc
        omega
      · rw [← hn, ← hl]; exact List.take_left
    · rw [List.getElem?_set_ne (Ne.symm e)] at hb'
      have hr2 := h.rows r' b' hb' hl'
      obtain ⟨us', ho, hc', h1⟩ := hr2.at_
      refine ⟨⟨us', ho.kept (row := some g) ⟨rfl, rfl, rfl, by simp [C.world], fun k _ hk => old k (fun e => hk (by rw [e]))⟩ ?_, RCs.le le.toLe0 _ _ hc', h1⟩, hr2.nonneg, hr2.mine⟩
      right
      intro e2
      exact h.rdist r' r b' b hb' hb hl' hlive e g e2 (by rw [hr]; rfl)
  · intro r1 r2 b1 b2 hb1 hb2 hl1 hl2 hne k hk
    have get : ∀ (q : Nat) (bq : Row), (s.rows.set r { b with ct := ct })[q]? = some bq → bq.live = true → ∃ b0, s.rows[q]? = some b0 ∧ b0.live = true := fun q bq hq hl => by
      by_cases e : q = r
      · subst e; exact ⟨b, hb, hlive⟩
      · rw [List.getElem?_set_ne (Ne.symm e)] at hq; exact ⟨bq, hq, hl⟩
    obtain ⟨b1', q1, q2⟩ := get r1 b1 hb1 hl1
    obtain ⟨b2', q3, q4⟩ := get r2 b2 hb2 hl2
    exact h.rdist r1 r2 b1' b2' q1 q3 q2 q4 hne k hk
end

theorem add_add' (a : Addr) (i j : Nat) : (a.add i).add j = a.add (i + j) := by
  by_cases hi : i = 0
  · subst hi; simp [Addr.add]
  · by_cases hj : j = 0
    · subst hj; simp [Addr.add]
    · simp [Addr.add, hi, hj, Nat.add_assoc]
theorem fold_splice (p : Nat) : ∀ (m : List Value) (k : Nat) (z : Array Value), p + k + m.length ≤ z.size →
    (m.zipIdx k).foldl (fun cs (x : Value × Nat) => cs.setIfInBounds (p + x.2) x.1) z = (z.toList.take (p + k) ++ m ++ z.toList.drop (p + k + m.length)).toArray
  | [], k, z, h => by simp
  | x :: m, k, z, h => by
    simp only [List.zipIdx_cons, List.foldl_cons]
    simp only [List.length_cons] at h
    rw [fold_splice p m (k + 1) _ (by simp; omega)]
    congr 1
    rw [Array.toList_setIfInBounds]
    have hlt : p + k < z.toList.length := by simp; omega
    rw [show p + (k + 1) = p + k + 1 from by omega]
    rw [List.take_set, List.drop_set_of_lt (by omega), List.take_succ_eq_append_getElem hlt]
    rw [List.set_append_right _ _ (by simp; omega)]
    simp [show min (p + k) z.size = p + k from by simp at hlt; omega, Nat.add_comm, Nat.add_left_comm, Nat.add_assoc]
theorem fillParts_sound {c : C} (place : Nat → Nat) (pl : Nat → Option (Nat × Nat)) : ∀ (parts : List (Nat × V)) (us : List (Nat × Value)) (z : List V) (zu : Array Value) (l : List V),
    fillParts place z parts = some l → RVs c z zu.toList → us.length = parts.length →
    (∀ (k : Nat) (p : Nat × V) (q : Nat × Value), parts[k]? = some p → us[k]? = some q → q.1 = p.1 ∧ RV c p.2 q.2 ∧ ∃ m, cells p.2 = some m ∧ pl p.1 = some (place p.1, m.length)) →
    ∃ lu, Instr.fill pl zu us = some lu ∧ RVs c l lu.toList ∧ lu.size = zu.size
  | [], us, z, zu, l, h, hz, hl, _ => by
    have : us = [] := List.eq_nil_of_length_eq_zero (by simpa using hl)
    subst this
    simp only [fillParts, Option.some.injEq] at h
    subst h
    exact ⟨zu, rfl, hz, rfl⟩
  | (i, v) :: r, us, z, zu, l, h, hz, hl, hp => by
    match us, hl with
    | (i', u) :: us', hl =>
      obtain ⟨e1, hr, m, hm, hpl⟩ := hp 0 (i, v) (i', u) rfl rfl
      dsimp only at e1 hr hm hpl
      subst e1
      simp only [fillParts, hm] at h
      split at h
      · rename_i hfit
        obtain ⟨hc, _⟩ := hr.cells hm
        have hlen : u.cells.size = m.length := by simpa using hc.length
        have hzl : zu.size = z.length := by simpa using hz.length
        have hfold : (u.cells.zipIdx.foldl (fun cs (x : Value × Nat) => cs.setIfInBounds (place i' + x.2) x.1) zu) = (zu.toList.take (place i') ++ u.cells.toList ++ zu.toList.drop (place i' + u.cells.size)).toArray := by
          have := fold_splice (place i') u.cells.toList 0 zu (by simp; omega)
          rw [← Array.foldl_toList, Array.toList_zipIdx]
          simpa using this
        have hz' : RVs c (splice z (place i') m) (zu.toList.take (place i') ++ u.cells.toList ++ zu.toList.drop (place i' + u.cells.size)) := by
          unfold splice
          rw [hlen]
          exact ((hz.take _).append hc).append (hz.drop _)
        obtain ⟨lu, h1, h2, h3⟩ := fillParts_sound place pl r us' (splice z (place i') m) (zu.toList.take (place i') ++ u.cells.toList ++ zu.toList.drop (place i' + u.cells.size)).toArray l h (by simpa using hz') (by simpa using hl)
          (fun k p q hk hq => hp (k + 1) p q (by simpa using hk) (by simpa using hq))
        refine ⟨lu, ?_, h2, ?_⟩
        · simp only [Instr.fill, hpl]
          rw [if_neg (by simp [hlen]; omega)]
          exact (congrArg (fun x => Instr.fill pl x us') hfold).trans h1
        · rw [h3]; simp; omega
      · cases h
section
variable {P : Program} {T : TypeId → TI} (hT : TabOK P T) {w0 : World} {fp : Nat → Prop} {c : C} {s : S} {a : Act}

/-- All blocks that were there are as they were. -/
structure Ext (w w' : World) : Prop where
  size : w.heap.size ≤ w'.heap.size
  block : ∀ k, k < w.heap.size → w'.heap[k]? = w.heap[k]?
theorem Ext.refl (w : World) : Ext w w := ⟨Nat.le_refl _, fun _ _ => rfl⟩
theorem Ext.trans {w w' w'' : World} (h : Ext w w') (h' : Ext w' w'') : Ext w w'' := ⟨Nat.le_trans h.size h'.size, fun k hk => (h'.block k (Nat.lt_of_lt_of_le hk h.size)).trans (h.block k hk)⟩
theorem Ext.cell {w w' : World} (h : Ext w w') {a : Addr} {u : Value} (hu : w.cell? a = some u) : w'.cell? a = some u := by
  by_cases hk : a.block < w.heap.size
  · rw [World.cell?_of_block (h.block _ hk)]; exact hu
  · unfold World.cell? at hu
    rw [Array.getElem?_eq_none (by omega)] at hu
    simp at hu
/-- It turns nothing, or makes a block, or neither is told. -/
inductive Kind where
  | free | make | other
theorem Ext.alloc (w : World) (o : Obj) : Ext w (w.alloc o) := ⟨by show _ ≤ (w.heap.push o).size; simp, fun k hk => heap_alloc_old w o hk⟩
/-- What is told of an operation that has a value. -/
def Tells (P : Program) (w0 : World) (fp : Nat → Prop) (c : C) (s' : S) (a : Act) (q : Kind) (run : World → Result Value) (v : V) : Prop :=
  ∃ u c', run c.w = .ok u c'.w ∧ Holds w0 fp c' s' a ∧ RV c' v u ∧ (q = .free → c'.w = c.w ∧ ∀ w', Ext c.w w' → run w' = .ok u w') ∧ (q = .make → Ext c.w c'.w)
def Skips (P : Program) (w0 : World) (fp : Nat → Prop) (c : C) (s' : S) (a : Act) (run : World → Result Unit) : Prop :=
  ∃ c', run c.w = .ok () c'.w ∧ Holds w0 fp c' s' a

theorem Holds.still (h : Holds w0 fp c s a) {run : World → Result Value} {v : V} {u : Value} (hr : ∀ w', Ext c.w w' → run w' = .ok u w') (hv : RV c v u) (q : Kind := .free) : Tells P w0 fp c s a q run v := ⟨u, c, hr _ (.refl _), h, hv, fun _ => ⟨rfl, hr⟩, fun _ => .refl _⟩

omit hT in
theorem box_sound (h : Holds w0 fp c s a) {t : TypeId} {x : V} {u : Value} {l : List V} (hx : RV c x u) (hl : cells x = some l) :
    Tells P w0 fp c { s with vars := s.vars ++ [⟨t, l⟩] } a .make (fun w => (Instr.box t u).run P w) (.lp s.vars.length 0) := by
  obtain ⟨hc, _⟩ := hx.cells hl
  refine ⟨.pointer (some ⟨c.w.heap.size, 0, none⟩), c.newVar t u.cells.toList, ?_, h.newVar t hc, ?_, (fun h => by cases h), fun _ => Ext.alloc _ _⟩
  · simp [Instr.box, newVar, newRow, newObj, C.newVar]
    rfl
  · simp only [RV, RC, C.newVar]
    exact ⟨by rw [← h.nv]; omega, by rw [if_pos h.nv.symm]⟩
include hT
theorem alloc_sound (h : Holds w0 fp c s a) {t : TypeId} {l : List V} (ho : (T t).ok = true) (hl : cells (ofVal (T t).zero) = some l) :
    Tells P w0 fp c { s with vars := s.vars ++ [⟨t, l⟩] } a .make (fun w => (Instr.alloc t true (.tuple #[])).run P w) (.lp s.vars.length 0) := by
  obtain ⟨hc, _⟩ := (RV.ofVal (c := c) (T t).zero).cells hl
  refine ⟨.pointer (some ⟨c.w.heap.size, 0, none⟩), c.newVar t (T t).zero.cells.toList, ?_, h.newVar t hc, ?_, (fun h => by cases h), fun _ => Ext.alloc _ _⟩
  · simp [Instr.alloc, hT.run_zero ho, newVar, newRow, newObj, C.newVar]
    rfl
  · simp only [RV, RC, C.newVar]
    exact ⟨by rw [← h.nv]; omega, by rw [if_pos h.nv.symm]⟩

omit hT in
theorem RCs_range {get : Nat → V} {us : Nat → Value} : ∀ (n k : Nat), (∀ j, k ≤ j → j < k + n → RC c (get j) (us j)) → RCs c ((List.range' k n).map get) ((List.range' k n).map us)
  | 0, k, _ => by simp [RCs]
  | n + 1, k, h => by
    simp only [List.range'_succ, List.map_cons, RCs]
    exact ⟨_, _, rfl, h k (Nat.le_refl _) (by omega), RCs_range n (k + 1) (fun j h1 h2 => h j (by omega) (by omega))⟩

theorem load_sound (h : Holds w0 fp c s a) {t : TypeId} {x v : V} {u : Value} {s' : S} (ho : (T t).ok = true) (hx : RV c x u) (hop : opLoad T s t x = .ok v s') :
    s' = s ∧ Tells P w0 fp c s a .free (fun w => (Instr.loadAt t u).run P w) v := by
  unfold opLoad at hop
  cases x with
  | lp y o =>
    simp only at hop
    cases hb : s.vars[y]? with
    | none => simp [hb] at hop
    | some b =>
      simp only [hb] at hop
      split at hop
      · rename_i hfit
        obtain ⟨rfl, rfl⟩ := R.ok.inj hop
        refine ⟨rfl, ?_⟩
        simp only [RV, RC] at hx
        obtain ⟨_, rfl⟩ := hx
        obtain ⟨us, hu, hr⟩ := (h.vars y b hb).at_
        refine h.still ?_ (shape_RV ((hr.drop o).take (T t).size))
        have hl := hr.length
        intro w' hw'
        simp only [Instr.loadAt, Instr.sureAddr, Sem.run_bind, Sem.run_pure, Result.andThen_ok]
        refine hT.run_loadVar ho w' _ _ (by simp; omega) (fun j v hv => ?_)
        rw [Addr.add_lit, cell_of_row w' _ _ _ _ _ ((hw'.block _ (h.gblt y (h.var_lt hb))).trans hu)]
        simp only [List.getElem?_take, List.getElem?_drop] at hv
        split at hv
        · simpa using hv
        · cases hv
      · cases hop
  | rp n sz cs i j =>
    simp only at hop
    split at hop
    · rename_i hfit
      obtain ⟨rfl, rfl⟩ := R.ok.inj hop
      refine ⟨rfl, ?_⟩
      rw [natI_val]
      simp only [RV, RC] at hx
      obtain ⟨ad, rfl, h0, h1, hF, hc⟩ := hx
      have hcell : ∀ q, q < (T t).size → ∃ u', c.w.cell? (ad.add (i.val.toNat * sz + (j + q))) = some u' ∧ u'.oneCell' = true ∧ RC c (getC cs i.val.toNat (j + q)) u' := fun q hq => by
        obtain ⟨u', q1, q2, q3⟩ := hc i.val.toNat (j + q) (by omega) (by omega)
        exact ⟨u', q1, q2, q3.rc⟩
      have hcell' : ∀ q, ∃ u', q < (T t).size → c.w.cell? (ad.add (i.val.toNat * sz + (j + q))) = some u' ∧ u'.oneCell' = true ∧ RC c (getC cs i.val.toNat (j + q)) u' := fun q => by
        by_cases hq : q < (T t).size
        · obtain ⟨u', hu⟩ := hcell q hq; exact ⟨u', fun _ => hu⟩
        · exact ⟨undef, fun h => absurd h hq⟩
      obtain ⟨us, hus⟩ := Classical.axiomOfChoice hcell'
      have hadd : ∀ q, (ad.add (i.val.toNat * sz + j)).add q = ad.add (i.val.toNat * sz + (j + q)) := fun q => by rw [add_add', Nat.add_assoc]
      refine h.still (u := shapeU (T t) ((List.range (T t).size).map us)) ?_ (shape_RV (RVs.of_RCs _ _ ?_))
      · intro w' hw'
        simp only [Instr.loadAt, Instr.sureAddr, Sem.run_bind, Sem.run_pure, Result.andThen_ok]
        refine hT.run_loadVar ho w' _ _ (by simp) (fun q v hv => ?_)
        rw [hadd]
        simp only [List.getElem?_map, Option.map_eq_some_iff, List.getElem?_range] at hv
        obtain ⟨q', hq, rfl⟩ := hv
        have hq2 := List.getElem?_eq_some_iff.1 hq
        obtain ⟨hlt, he⟩ := hq2
        simp at he hlt
        subst he
        exact hw'.cell (hus _ hlt).1
      · have := RCs_range (c := c) (get := fun q => getC cs i.val.toNat (j + q)) (us := us) (T t).size 0 (fun q _ hq => (hus q (by omega)).2.2)
        rwa [List.range_eq_range']
    · cases hop
  | op r sz i j =>
    simp only at hop
    cases hb : s.rows[r]? with
    | none => simp [hb] at hop
    | some b =>
      simp only [hb] at hop
      split at hop
      · rename_i hcond
        simp only [Bool.and_eq_true, beq_iff_eq, decide_eq_true_eq] at hcond
        obtain ⟨⟨hlive, rfl⟩, hfit⟩ := hcond
        obtain ⟨us, hown, hcs, _⟩ := (h.rows r b hb hlive).at_
        simp only [RV] at hx
        obtain ⟨_, g, n', cap, hrr, hi0, hin, rfl⟩ := hx
        have hcells : ∀ q u', us[q]? = some u' → c.w.cell? ⟨g, q, none⟩ = some u' := fun q u' hq => by
          have := hown.cells (g := g) (by rw [hrr]; rfl) q u' hq
          rwa [Addr.add_lit, Nat.zero_add] at this
        have hlen := hown.1
        -- the segment that is read
        have seg : ∀ (l : List V), RVs c l ((us.drop (i.val.toNat * b.sz + j)).take (T t).size) → l.length = (T t).size →
            Tells P w0 fp c s a .free (fun w => (Instr.loadAt t (.pointer (some ⟨g, i.val.toNat * b.sz + j, none⟩))).run P w) (shapeV (T t) l) := fun l hl hll => by
          refine h.still ?_ (shape_RV hl)
          intro w' hw'
          simp only [Instr.loadAt, Instr.sureAddr, Sem.run_bind, Sem.run_pure, Result.andThen_ok]
          refine hT.run_loadVar ho w' _ _ (by rw [hl.length, hll]) (fun q v hv => ?_)
          rw [Addr.add_lit]
          simp only [List.getElem?_take, List.getElem?_drop] at hv
          split at hv
          · exact hw'.cell <| hcells _ _ (by simpa [Nat.add_assoc] using hv)
          · cases hv
        have hn' : n' = b.n.val.toNat := by
          rcases hown.2 with ⟨hv, _⟩ | ⟨g', cap', cur, hv, _⟩
          · rw [hrr] at hv; cases hv
          · rw [hrr] at hv; injection hv
        split at hop
        · rename_i l i' hct
          split at hop
          · rename_i hle
            obtain ⟨rfl, rfl⟩ := R.ok.inj hop
            simp only [I.val] at seg hin hi0 ⊢
            refine ⟨trivial, seg _ ?_ (by simp; omega)⟩
            rw [hct] at hcs
            simp only [Ct.cells] at hcs
            exact ((RVs.of_RCs _ _ hcs).drop _).take _
          · cases hop
        · obtain ⟨rfl, rfl⟩ := R.ok.inj hop
          refine ⟨rfl, ?_⟩
          rw [natI_val]
          refine seg _ ?_ (by simp)
          rw [← flat_seg (n := b.n.val.toNat) (getC (b.ct.cols' b.sz)) (by omega) hfit]
          exact ((RVs.of_RCs _ _ (Ct.cols'_sound hlen hcs)).drop _).take _
      · cases hop
  | _ => cases hop

omit hT in
theorem RC.of_cl {c : C} : ∀ {v : V} {u : Value}, cl v = true → RV c v u → RC c v u
  | .i k n, u, _, h => by simpa only [RV] using h
  | .b x, u, _, h => by simpa only [RV] using h
  | .v v, u, _, h => by simpa only [RV] using h
  | .lp x o, u, _, h => by simpa only [RV] using h
  | .ro n sz cs, u, _, h => by simpa only [RV] using h
  | .rp n sz cs i j, u, _, h => by simpa only [RV] using h
  | .own r, u, h1, _ => by simp [cl] at h1
  | .vw _ _ _ _, u, h1, _ => by simp [cl] at h1
  | .fn _ _, u, h1, _ => by simp [cl] at h1
  | .op r sz i j, u, h1, _ => by simp [cl] at h1
  | .agg l, u, h1, _ => by simp [cl] at h1
  | .tup l, u, h1, _ => by simp [cl] at h1
  | .junk, u, h1, _ => by simp [cl] at h1
omit hT in
theorem RCs.of_cl {c : C} : ∀ {l : List V} {us : List Value}, l.all cl = true → RVs c l us → RCs c l us
  | [], us, _, h => by simpa [RVs, RCs] using h
  | v :: l, us, h1, h => by
    simp only [RVs] at h
    obtain ⟨u, us', rfl, hu, hs⟩ := h
    simp only [List.all_cons, Bool.and_eq_true] at h1
    simp only [RCs]
    exact ⟨u, us', rfl, RC.of_cl h1.1 hu, RCs.of_cl h1.2 hs⟩

theorem store_sound (h : Holds w0 fp c s a) {t : TypeId} {x y : V} {u u' : Value} {s' : S} (ho : (T t).ok = true) (hx : RV c x u) (hy : RV c y u') (hop : opStore T s t x y = .skip s') :
    Skips P w0 fp c s' a (fun w => (Instr.storeAt t u u').run P w) := by
  unfold opStore at hop
  cases x with
  | lp v o =>
    cases hm : cells y with
    | none => simp [hm] at hop
    | some m =>
      simp only [hm] at hop
      cases hb : s.vars[v]? with
      | none => simp [hb] at hop
      | some b =>
        simp only [hb] at hop
        split at hop
        · rename_i hcond
          simp only [Bool.and_eq_true, beq_iff_eq, decide_eq_true_eq] at hcond
          obtain ⟨hsz, hfit⟩ := hcond
          obtain rfl := R.skip.inj hop
          simp only [RV, RC] at hx
          obtain ⟨_, rfl⟩ := hx
          obtain ⟨us, hu, hr⟩ := (h.vars v b hb).at_
          obtain ⟨hc, h1⟩ := hy.cells hm
          have hl := hr.length
          have hcl := hc.length
          simp at hcl
          refine ⟨_, ?_, h.setVar hb (l := splice b.cells o m) (us := us.take o ++ u'.cells.toList ++ us.drop (o + m.length)) (((hr.take _).append hc).append (hr.drop _))⟩
          simp only [Instr.storeAt, Instr.sureAddr, Sem.run_bind, Sem.run_pure, Result.andThen_ok]
          have := hT.run_storeVar ho c.w (c.g v) o b.t us.toArray u' hu (by omega) (by simp; omega) h1
          rw [this]
          simp [C.world, hcl]
        · cases hop
  | op r sz i j =>
    cases hm : cells y with
    | none => simp [hm] at hop
    | some m =>
      simp only [hm] at hop
      cases hb : s.rows[r]? with
      | none => simp [hb] at hop
      | some b =>
        simp only [hb] at hop
        split at hop
        case isFalse => cases hop
        rename_i hcond
        simp only [Bool.and_eq_true, beq_iff_eq, decide_eq_true_eq] at hcond
        obtain ⟨⟨⟨⟨hlive, rfl⟩, hsz⟩, hfit⟩, hcl⟩ := hcond
        obtain ⟨us, hown, hcs, hone⟩ := (h.rows r b hb hlive).at_
        simp only [RV] at hx
        obtain ⟨_, g, n', cap, hrr, hi0, hin, rfl⟩ := hx
        obtain ⟨hc, h1⟩ := hy.cells hm
        have hcc := RCs.of_cl hcl hc
        have hml := hcc.length
        have hlen := hown.1
        have hex : ∃ cur, n' = b.n.val.toNat ∧ c.w.heap[g]? = some (.cells cur b.e (0, 0)) ∧ n' ≤ cap ∧ cap ≤ maxLen ∧ cur.size = cap * b.sz ∧ cur.toList.take (n' * b.sz) = us := by
          rcases hown.2 with ⟨hv, _⟩ | ⟨g', cap', cur, hv, _, hg, q1, q2, q3, q4⟩
          · rw [hrr] at hv; cases hv
          · rw [hrr] at hv
            simp only [Value.slice.injEq, Option.some.injEq, Addr.mk.injEq, and_true] at hv
            obtain ⟨rfl, rfl, rfl⟩ := hv
            exact ⟨cur, rfl, hg, q1, q2, q3, q4⟩
        obtain ⟨cur, rfl, hg, hnc, hcm, hcs', htake⟩ := hex
        have hle : (i.val.toNat + 1) * b.sz ≤ b.n.val.toNat * b.sz := Nat.mul_le_mul_right _ hin
        rw [Nat.add_mul] at hle
        have hcapsz := Nat.mul_le_mul_right b.sz hnc
        -- what the row then holds
        have key : ∀ ct : Ct, RCs c (ct.cells b.n.val.toNat b.sz) (us.take (i.val.toNat * b.sz + j) ++ u'.cells.toList ++ us.drop (i.val.toNat * b.sz + j + m.length)) →
            Skips P w0 fp c { s with rows := s.rows.set r { b with ct := ct } } a (fun w => (Instr.storeAt t (.pointer (some ⟨g, i.val.toNat * b.sz + j, none⟩)) u').run P w) := fun ct hct => by
          have hl2 : (us.take (i.val.toNat * b.sz + j) ++ u'.cells.toList ++ us.drop (i.val.toNat * b.sz + j + m.length)).length = b.n.val.toNat * b.sz := by
            simp only [List.length_append, List.length_take, List.length_drop, hml]; omega
          refine ⟨_, ?_, h.setRow hb hlive hrr hg hnc hcm hcs' rfl hl2 hct ?_⟩
          · simp only [Instr.storeAt, Instr.sureAddr, Sem.run_bind, Sem.run_pure, Result.andThen_ok]
            simp only [Array.length_toList] at hml
            have := hT.run_storeVar ho c.w g (i.val.toNat * b.sz + j) b.e cur u' hg (by omega) (by omega) h1
            rw [this]
            simp only [C.world, hml]
            rw [← htake]
            refine congrArg (fun l : List Value => Result.ok () (c.w.setRow g l.toArray)) ?_
            apply List.ext_getElem?
            intro p
            have lt1 : (cur.toList.take (b.n.val.toNat * b.sz)).length = b.n.val.toNat * b.sz := by simp; omega
            simp only [List.append_assoc, List.getElem?_append, List.length_take, List.length_drop, Array.length_toList, List.getElem?_take, List.getElem?_drop]
            repeat' split
            all_goals first | rfl | omega | (congr 1; omega) | (exfalso; omega)
          · intro v hv
            rcases List.mem_append.1 hv with hv | hv
            · rcases List.mem_append.1 hv with hv | hv
              · exact hone v (List.mem_of_mem_take hv)
              · exact h1 v hv
            · exact hone v (List.mem_of_mem_drop hv)
        split at hop
        · rename_i l i' hct
          split at hop
          case isFalse => cases hop
          rename_i hle
          obtain rfl := R.skip.inj hop
          rw [hct] at hcs
          simp only [Ct.cells] at hcs
          simp only [I.val] at key hi0 hin ⊢
          refine key _ ?_
          simp only [Ct.cells, splice]
          refine RCs.append (RCs.append ?_ hcc) ?_
          · refine RCs.of_get (by simp [hcs.length]) (fun p v u hv hu => ?_)
            simp only [List.getElem?_take] at hv hu
            split at hv
            · rename_i hp
              rw [if_pos hp] at hu
              obtain ⟨v', hv', hr⟩ := hcs.get p hu
              rw [hv] at hv'
              obtain rfl := Option.some.inj hv'
              exact hr
            · cases hv
          · refine RCs.of_get (by simp [hcs.length]) (fun p v u hv hu => ?_)
            simp only [List.getElem?_drop] at hv hu
            obtain ⟨v', hv', hr⟩ := hcs.get _ hu
            rw [hv] at hv'
            obtain rfl := Option.some.inj hv'
            exact hr
        · obtain rfl := R.skip.inj hop
          refine key _ ?_
          simp only [Ct.cells]
          rw [natI_val]
          exact updCols_sound (by omega) hfit (Ct.cols'_sound hlen hcs) hcc
  | _ => simp at hop
end

end Go.Dx
