/- One operation, as the machine takes it, is what the model does: reading, writing, addresses. -/
import Derived.Test.YtplefbcgpbdkfaaDoorFd
set_option linter.all false
namespace Go.Fx
open Go Go.RowKit

theorem natI_val (i : I) : natI i = i.val.toNat := by cases i <;> rfl
theorem addI_val (a b : I) : (addI a b).val = a.val + b.val := by
  cases a <;> cases b <;> simp only [addI] <;> (try split) <;> simp_all [I.val]
theorem subI_val (a b : I) : (subI a b).val = a.val - b.val := by
  cases a <;> cases b <;> simp only [subI] <;> (try split) <;> simp_all [I.val]
theorem add_blk (a : Addr) (n : Nat) : (a.add n).block = a.block := by unfold Addr.add; split <;> rfl
theorem add_add' (a : Addr) (i j : Nat) : (a.add i).add j = a.add (i + j) := by
  by_cases hi : i = 0
  · subst hi; simp [Addr.add]
  · by_cases hj : j = 0
    · subst hj; simp [Addr.add]
    · simp [Addr.add, hi, hj, Nat.add_assoc]
theorem add_at (g o n : Nat) : (⟨g, o, none⟩ : Addr).add n = ⟨g, o + n, none⟩ := by unfold Addr.add; split <;> simp_all

/-- All blocks that were there are as they were. -/
structure Ext (w w' : World) : Prop where
  size : w.heap.size ≤ w'.heap.size
  block : ∀ k, k < w.heap.size → w'.heap[k]? = w.heap[k]?
theorem Ext.refl (w : World) : Ext w w := ⟨Nat.le_refl _, fun _ _ => rfl⟩
theorem Ext.trans {w w' w'' : World} (h : Ext w w') (h' : Ext w' w'') : Ext w w'' := ⟨Nat.le_trans h.size h'.size, fun k hk => (h'.block k (Nat.lt_of_lt_of_le hk h.size)).trans (h.block k hk)⟩
theorem Ext.cell {w w' : World} (h : Ext w w') {a : Addr} {u : Value} (hu : w.cell? a = some u) : w'.cell? a = some u := by
  by_cases hk : a.block < w.heap.size
  · rw [World.cell?_of_block (h.block _ hk)]; exact hu
  · unfold World.cell? at hu
    rw [Array.getElem?_eq_none (by omega)] at hu
    simp at hu
theorem Ext.alloc (w : World) (o : Obj) : Ext w (w.alloc o) := ⟨by show _ ≤ (w.heap.push o).size; simp, fun k hk => heap_alloc_old w o hk⟩
/-- It turns nothing, or makes a block, or neither is told. -/
def AgreeOn (A : Foot) (w w' : World) : Prop := ∀ k o, A k o → spot w' k o = spot w k o
theorem AgreeOn.refl (A : Foot) (w : World) : AgreeOn A w w := fun _ _ _ => rfl
theorem AgreeOn.trans {A : Foot} {w w' w'' : World} (h : AgreeOn A w w') (h' : AgreeOn A w' w'') : AgreeOn A w w'' := fun k o hk => (h' k o hk).trans (h k o hk)
theorem AgreeOn.mono {A B : Foot} {w w' : World} (h : AgreeOn A w w') (hb : ∀ k o, B k o → A k o) : AgreeOn B w w' := fun k o hk => h k o (hb k o hk)
/-- What may be read, and some roots. -/
def RF (c : C) (s : S) (l : List Rt) : Foot := fun k p => c.F k p ∨ ∃ q, q ∈ l ∧ foot c s q k p
/-- A step: what is not touched stays, and stays owned. -/
structure StepOK (c : C) (s : S) (c' : C) (s' : S) (tch : List Rt) : Prop where
  F : ∀ k o, c.F k o → c'.F k o
  agree : ∀ k o, (c.F k o ∨ ∃ q, q ∉ tch ∧ foot c s q k o) → spot c'.w k o = spot c.w k o
  foot : ∀ q k o, q ∉ tch → foot c s q k o → foot c' s' q k o
theorem StepOK.refl (c : C) (s : S) (tch : List Rt) : StepOK c s c s tch := ⟨fun _ _ h => h, fun _ _ _ => rfl, fun _ _ _ _ h => h⟩
theorem StepOK.same {c : C} {s s' : S} {tch : List Rt} (e1 : s'.vars = s.vars) (e2 : s'.rows = s.rows) (e3 : s'.objs = s.objs) : StepOK c s c s' tch := ⟨fun _ _ h => h, fun _ _ _ => rfl, fun q k o _ h => by cases q <;> simpa only [Fx.foot, e1, e2, e3] using h⟩
theorem StepOK.of {w0 : World} {fp : Base} {c c' : C} {s s' : S} {a : Act} {tch : List Rt} {D : Foot} (h : Holds w0 fp c s a) (hk : Keeps c.w c'.w D) (hD : ∀ k o, D k o → ∃ q, q ∈ tch ∧ Fx.foot c s q k o) (hF : ∀ k o, c.F k o → c'.F k o) (hf : ∀ q k o, q ∉ tch → Fx.foot c s q k o → Fx.foot c' s' q k o) : StepOK c s c' s' tch := by
  refine ⟨hF, fun k o hq => ?_, hf⟩
  rcases hq with hq | ⟨q, hq, hfq⟩
  · refine hk.spot k o (h.flt k o hq) (fun hd => ?_)
    obtain ⟨q, _, hfq⟩ := hD k o hd
    exact (h.mine q k o hfq).2 hq
  · refine hk.spot k o (foot_lt h hfq) (fun hd => ?_)
    obtain ⟨q', hq', hfq'⟩ := hD k o hd
    rw [h.disj q q' k o hfq hfq'] at hq
    exact hq hq'
inductive Kind where
  | free (l : List Rt) | make | other (tch : List Rt)
def Kind.tch : Kind → List Rt
  | .other l => l
  | _ => []

section
variable {P : Program} {T : TypeId → TI} (hT : TabOK P T) {w0 : World} {fp : Base} {c : C} {s : S} {a : Act}

/-- What is told of an operation that has a value. -/
def Tells (P : Program) (w0 : World) (fp : Base) (c : C) (s s' : S) (a : Act) (q : Kind) (run : World → Result Value) (v : V) : Prop :=
  ∃ u c', run c.w = .ok u c'.w ∧ Holds w0 fp c' s' a ∧ RV c' v u ∧ (∀ l, q = .free l → c' = c ∧ (s'.vars = s.vars ∧ s'.rows = s.rows ∧ s'.objs = s.objs) ∧ ∀ w', AgreeOn (RF c s l) c.w w' → run w' = .ok u w') ∧ StepOK c s c' s' q.tch
def Skips (P : Program) (w0 : World) (fp : Base) (c : C) (s s' : S) (a : Act) (tch : List Rt) (run : World → Result Unit) : Prop :=
  ∃ c', run c.w = .ok () c'.w ∧ Holds w0 fp c' s' a ∧ StepOK c s c' s' tch

theorem Holds.still {s' : S} (h : Holds w0 fp c s' a) {run : World → Result Value} {v : V} {u : Value} {l : List Rt} (hr : ∀ w', AgreeOn (RF c s l) c.w w' → run w' = .ok u w') (hv : RV c v u) (e1 : s'.vars = s.vars := by rfl) (e2 : s'.rows = s.rows := by rfl) (e3 : s'.objs = s.objs := by rfl) : Tells P w0 fp c s s' a (.free l) run v :=
  ⟨u, c, hr _ (.refl _ _), h, hv, fun l' e => by injection e with e; subst e; exact ⟨rfl, ⟨e1, e2, e3⟩, hr⟩, StepOK.same e1 e2 e3⟩
theorem StepOK.newVar (h : Holds w0 fp c s a) (el : TypeId) (us : List Value) (b : Var) : StepOK c s (c.newVar el us) { s with vars := s.vars ++ [b] } [] := by
  refine StepOK.of h (Keeps.alloc _ _ (fun _ _ => False)) (fun _ _ h => h.elim) (fun _ _ h => h) (fun q k o _ hq => ?_)
  cases q with
  | v x =>
    obtain ⟨b0, hb, hl, hk⟩ := hq
    have hx := (List.getElem?_eq_some_iff.1 hb).1
    refine ⟨b0, by simp only [List.getElem?_append_left hx]; exact hb, hl, ?_⟩
    unfold varF at hk ⊢
    have : (c.newVar el us).g x = c.g x := by simp only [C.newVar]; rw [if_neg (by rw [h.nv]; omega)]
    rw [this]; exact hk
  | r r => exact hq
  | o x => exact hq
theorem StepOK.newRow (h : Holds w0 fp c s a) {v : Value} {w' : World} {b : Row} (hk : Keeps c.w w' (fun _ _ => False)) (tch : List Rt) {ns : List Need} : StepOK c s (c.newRow v w') { s with rows := s.rows ++ [b], needs := ns } tch := by
  refine StepOK.of (D := fun _ _ => False) h hk (fun _ _ h => h.elim) (fun _ _ h => h) (fun q k o _ hq => ?_)
  cases q with
  | r x =>
    obtain ⟨b0, hb, hl, hf⟩ := hq
    have hx := (List.getElem?_eq_some_iff.1 hb).1
    refine ⟨b0, by simp only [List.getElem?_append_left hx]; exact hb, hl, ?_⟩
    have : (c.newRow v w').r x = c.r x := by simp only [C.newRow]; rw [if_neg (by rw [h.nr]; omega)]
    rw [this]; exact hf
  | v x => exact hq
  | o x => exact hq
theorem StepOK.regrow (h : Holds w0 fp c s a) {r : Nat} {b' : Row} {v : Value} {w' : World} (hk : Keeps c.w w' (Fx.foot c s (.r r))) {tm : List V} {ns : List Need} : StepOK c s (c.regrow r v w') { s with tmps := tm, vars := s.vars.map fun v => ⟨v.live, v.ct.kill r⟩, rows := s.rows.set r b', needs := ns } [.r r] := by
  refine StepOK.of h hk (fun k o hd => ⟨_, by simp, hd⟩) (fun _ _ h => h) (fun q k o hne hq => ?_)
  cases q with
  | r x =>
    obtain ⟨b0, hb, hl, hf⟩ := hq
    have hx : r ≠ x := fun e => hne (by simp [e])
    refine ⟨b0, by simp only [List.getElem?_set_ne hx]; exact hb, hl, ?_⟩
    have : (c.regrow r v w').r x = c.r x := by simp only [C.regrow]; rw [if_neg (Ne.symm hx)]
    rw [this]; exact hf
  | v x =>
    obtain ⟨b0, hb, hl, hf⟩ := hq
    exact ⟨⟨b0.live, b0.ct.kill r⟩, by simp [hb], hl, by simp only [Ctn.kill_size]; exact hf⟩
  | o x => exact hq

theorem newVar_tells (h : Holds w0 fp c s a) {el : TypeId} {ct : Ctn} {us : List Value} {run : World → Result Value} (hl : RCt c ct us) (hp : 0 < ct.size) (hrun : run c.w = .ok (.pointer (some ⟨c.w.heap.size, 0, none⟩)) (c.w.alloc (.cells us.toArray el))) :
    Tells P w0 fp c s { s with vars := s.vars ++ [⟨true, ct⟩] } a .make run (.lp s.vars.length 0) := by
  refine ⟨.pointer (some ⟨c.w.heap.size, 0, none⟩), c.newVar el us, hrun, (h.newVar el hl hp).2, ?_, (fun _ h => by cases h), StepOK.newVar h el us _⟩
  simp only [RV, C.newVar]
  exact ⟨by rw [← h.nv]; omega, by rw [if_pos h.nv.symm]⟩
theorem box_sound (h : Holds w0 fp c s a) {t : TypeId} {ct : Ctn} {u : Value} (hx : RCt c ct u.cells.toList) (hp : 0 < ct.size) :
    Tells P w0 fp c s { s with vars := s.vars ++ [⟨true, ct⟩] } a .make (fun w => (Instr.box t u).run P w) (.lp s.vars.length 0) := by
  refine newVar_tells h (el := t) hx hp ?_
  simp [Instr.box, newVar, newRow, newObj]
  rfl
include hT
theorem alloc_sound (h : Holds w0 fp c s a) {t : TypeId} {ct : Ctn} (ho : (T t).ok = true) (hx : RCt c ct (T t).zero.cells.toList) (hp : 0 < ct.size) :
    Tells P w0 fp c s { s with vars := s.vars ++ [⟨true, ct⟩] } a .make (fun w => (Instr.alloc t true (.tuple #[])).run P w) (.lp s.vars.length 0) := by
  refine newVar_tells h (el := t) hx hp ?_
  simp [Instr.alloc, hT.run_zero ho, newVar, newRow, newObj]
  rfl

/-! ### Reading -/
theorem TabOK.tpOK {t : TypeId} {q : Tp} (ho : (T t).ok = true) (hq : (T t).tp = some q) : q.size = (T t).size ∧ q.isP = aggTy (T t).d ∧ (T t).zero.cells.toList = q.zc ∧ ((T t).eqk ≠ [] → q.kds = some (T t).eqk) := (hT.ok t ho).tp q hq
theorem loadAt_cells {t : TypeId} (ho : (T t).ok = true) {w w' : World} {g o : Nat} {us : List Value} (hl : us.length = (T t).size) {A : Foot} (hc : ∀ j u, us[j]? = some u → w.cell? ⟨g, o + j, none⟩ = some u) (hA : ∀ j, j < us.length → A g (o + j)) (hx : AgreeOn A w w') :
    (Instr.loadAt t (.pointer (some ⟨g, o, none⟩))).run P w' = .ok (shapeU (T t) us) w' := by
  simp only [Instr.loadAt, Instr.sureAddr, Sem.run_bind, Sem.run_pure, Result.andThen_ok]
  exact hT.run_loadVar ho w' _ _ hl (fun j v hv => by rw [add_at]; exact cell_of_spot (hx _ _ (hA j (List.getElem?_eq_some_iff.1 hv).1)) (hc j v hv))
omit hT in
theorem seg_get {us : List Value} {p n j : Nat} {u : Value} (h : ((us.drop p).take n)[j]? = some u) : us[p + j]? = some u := by
  simp only [List.getElem?_take, List.getElem?_drop] at h
  split at h
  · exact h
  · cases h
omit hT in
theorem Holds.rowAt (h : Holds w0 fp c s a) {r : Nat} {b : Row} (hb : s.rows[r]? = some b) (hl : b.live = true) {g o n cap : Nat} (hrr : c.r r = .slice (some ⟨g, o, none⟩) n cap) (hn : 0 < n) :
    ∃ us, n = b.l.length ∧ RowAt c.w b.fix b.e b.t.size (c.r r) b.l.length us ∧ Cells c.w g o us ∧ RpL (Rp c b.t) b.l us ∧ us.length = b.l.length * b.t.size := by
  obtain ⟨us, h1, h2⟩ := (h.rows r b hb hl).at_
  rcases h1.at_ with ⟨e, _⟩ | ⟨_, e, A, cp, e2, _⟩ | ⟨g', o', cap', e, _, _, h3, _⟩
  · rw [e] at hrr; cases hrr
  · rw [e2] at hrr; simp at hrr; omega
  · rw [e] at hrr
    simp only [Value.slice.injEq, Option.some.injEq, Addr.mk.injEq, and_true] at hrr
    obtain ⟨⟨rfl, rfl⟩, rfl, rfl⟩ := hrr
    exact ⟨us, rfl, h1, h3, h2, h1.len⟩
omit hT in
theorem elem_at {t : Tp} {l : List t.T} {us : List Value} (h : RpL (Rp c t) l us) {i : Int} (h0 : 0 ≤ i) (h1 : i < l.length) : Rp c t (t.ix l i) ((us.drop (i.toNat * t.size)).take t.size) ∧ i.toNat * t.size + t.size ≤ us.length := by
  refine ⟨h.get (fun _ _ h => h.length) _ (ix_get h0 h1), ?_⟩
  rw [h.len]
  have : (i.toNat + 1) * t.size ≤ l.length * t.size := Nat.mul_le_mul_right _ (by omega)
  rw [Nat.add_mul] at this
  omega
omit hT in
theorem seg_seg {us : List Value} {p n j m : Nat} (h : j + m ≤ n) : (((us.drop p).take n).drop j).take m = (us.drop (p + j)).take m := by
  rw [List.drop_take, List.take_take, List.drop_drop, Nat.min_eq_left (by omega)]
theorem load_sound (h : Holds w0 fp c s a) {t : TypeId} {x v : V} {u : Value} {s' : S} (ho : (T t).ok = true) (hx : RV c x u) (hop : opLoad T s t x = .ok v s') :
    s' = s ∧ ∃ u', (∀ w', AgreeOn (RF c s (readsV x)) c.w w' → (Instr.loadAt t u).run P w' = .ok u' w') ∧ RV c v u' := by
  unfold opLoad at hop
  cases x with
  | lp y o =>
    simp only at hop
    cases hb : s.vars[y]? with
    | none => simp [hb] at hop
    | some b =>
      simp only [hb] at hop
      split at hop
      case isFalse => cases hop
      rename_i hlv
      simp only [RV] at hx
      obtain ⟨_, rfl⟩ := hx
      obtain ⟨us, hu, hr⟩ := (h.vars y b hb hlv).at_
      have hl := hr.length
      split at hop
      · rename_i q e hct
        split at hop
        case h_2 => cases hop
        rename_i tt htt
        split at hop
        case h_2 => cases hop
        rename_i d hd
        obtain ⟨rfl, rfl⟩ := R.ok.inj hop
        refine ⟨rfl, ?_⟩
        rw [hct] at hr
        obtain ⟨h1, h2⟩ := Tp.sub_sound hr hd
        obtain ⟨e1, e2, _⟩ := hT.tpOK ho htt
        refine ⟨_, fun w' hw' => ?_, toV_sound h1 e2⟩
        rw [hct] at hl
        simp only [Ctn.size] at hl
        exact loadAt_cells hT ho (by simp; omega) (fun j u hj => by rw [Nat.add_assoc]; exact hu.get (seg_get hj)) (fun j hj => .inr ⟨.v y, by simp [readsV], b, hb, hlv, rfl, by omega, by simp at hj; simp only [hct, Ctn.size]; omega⟩) hw'
      · rename_i l hct
        split at hop
        case isFalse => cases hop
        rename_i hfit
        obtain ⟨rfl, rfl⟩ := R.ok.inj hop
        refine ⟨rfl, ?_⟩
        rw [hct] at hr hl
        simp only [Ctn.size] at hl
        refine ⟨_, fun w' hw' => ?_, shapeD_sound (fun q hq => (hT.tpOK ho hq).2.1) ((show RVs c l us from hr).drop o |>.take (T t).size)⟩
        exact loadAt_cells hT ho (by simp; omega) (fun j u hj => by rw [Nat.add_assoc]; exact hu.get (seg_get hj)) (fun j hj => .inr ⟨.v y, by simp [readsV], b, hb, hlv, rfl, by omega, by simp at hj; simp only [hct, Ctn.size]; omega⟩) hw'
  | rp q l i j =>
    simp only at hop
    split at hop
    case h_2 => cases hop
    rename_i tt htt
    split at hop
    case h_2 => cases hop
    rename_i d hd
    obtain ⟨rfl, rfl⟩ := R.ok.inj hop
    refine ⟨rfl, ?_⟩
    simp only [RV] at hx
    obtain ⟨h0, h1, g, o, vs, rfl, hs, hl⟩ := hx
    obtain ⟨he, hle⟩ := elem_at hl h0 h1
    obtain ⟨p1, p2⟩ := Tp.sub_sound he hd
    rw [seg_seg p2] at p1
    obtain ⟨e1, e2, _⟩ := hT.tpOK ho htt
    refine ⟨_, fun w' hw' => ?_, toV_sound p1 e2⟩
    exact loadAt_cells hT ho (by simp; omega) (fun j u hj => by rw [Nat.add_assoc]; exact hs.cell _ _ (seg_get hj)) (fun j hj => .inl (by rw [Nat.add_assoc]; exact hs.lent _ (by simp at hj; omega))) hw'
  | op r sz i j =>
    simp only at hop
    cases hb : s.rows[r]? with
    | none => simp [hb] at hop
    | some b =>
      simp only [hb] at hop
      split at hop
      case isFalse => cases hop
      rename_i hcond
      simp only [Bool.and_eq_true, beq_iff_eq] at hcond
      obtain ⟨hlive, rfl⟩ := hcond
      split at hop
      case h_2 => cases hop
      rename_i tt htt
      split at hop
      case h_2 => cases hop
      rename_i d hd
      obtain ⟨rfl, rfl⟩ := R.ok.inj hop
      refine ⟨rfl, ?_⟩
      simp only [RV] at hx
      obtain ⟨_, g, o, n, cap, hrr, h0, h1, rfl⟩ := hx
      obtain ⟨us, rfl, _, hcells, hl, hlen⟩ := h.rowAt hb hlive hrr (by omega)
      obtain ⟨he, hle⟩ := elem_at hl h0 (by omega)
      obtain ⟨p1, p2⟩ := Tp.sub_sound he hd
      rw [seg_seg p2] at p1
      obtain ⟨e1, e2, _⟩ := hT.tpOK ho htt
      refine ⟨_, fun w' hw' => ?_, toV_sound p1 e2⟩
      exact loadAt_cells hT ho (by simp; omega) (fun j u hj => by rw [Nat.add_assoc]; exact hcells.get (seg_get hj)) (fun j' hj' => .inr ⟨.r r, by simp [readsV], b, hb, hlive, by
        rw [hrr]
        have hll := hl.len
        simp only [List.length_take, List.length_drop] at hj'
        refine ⟨rfl, .inr ⟨?_, ?_⟩⟩
        · show o ≤ _; omega
        · show _ < o + _; rw [← hll]; omega⟩) hw'
  | _ => cases hop

/-! ### Writing -/
omit hT in
theorem splice_eq {cur us m : List Value} {p o : Nat} (h : (cur.drop p).take us.length = us) (hc : p + us.length ≤ cur.length) (ho : o + m.length ≤ us.length) :
    cur.take (p + o) ++ m ++ cur.drop (p + o + m.length) = cur.take p ++ (us.take o ++ m ++ us.drop (o + m.length)) ++ cur.drop (p + us.length) := by
  have hu : ∀ q, q < us.length → us[q]? = cur[p + q]? := fun q hq => by
    conv => lhs; rw [← h]
    rw [List.getElem?_take, if_pos hq, List.getElem?_drop]
  apply List.ext_getElem?
  intro q
  simp only [List.append_assoc, List.getElem?_append, List.length_take, List.length_drop, List.getElem?_take, List.getElem?_drop]
  repeat' split
  all_goals first | rfl | omega | (congr 1; omega) | (rw [hu _ (by omega)]; congr 1; omega) | (exfalso; omega) | skip
omit hT in
theorem splice_RVs {l m : List V} {us ms : List Value} {o : Nat} (h : RVs c l us) (hm : RVs c m ms) : RVs c (splice l o m) (us.take o ++ ms ++ us.drop (o + m.length)) := ((h.take _).append hm).append (h.drop _)
omit hT in
theorem splice_length {l m : List V} {o : Nat} (h : o + m.length ≤ l.length) : (splice l o m).length = l.length := by simp [splice]; omega
omit hT in
theorem Ctn.put_sound {ti : TI} {ct ct' : Ctn} {o : Nat} {y : V} {u : Value} {us : List Value} (hti : ∀ q, ti.tp = some q → q.size = ti.size) (h : RCt c ct us) (hy : RV c y u) (hp : ct.put ti o y = some ct') :
    u.cells.size = ti.size ∧ o + ti.size ≤ us.length ∧ ct'.size = ct.size ∧ (∀ x ∈ u.cells.toList, x.oneCell' = true) ∧ ∀ c', C.Le c c' → RCt c' ct' (us.take o ++ u.cells.toList ++ us.drop (o + u.cells.toList.length)) := by
  have hl := h.length
  have byC : ct.byCells ti o y = some ct' → u.cells.size = ti.size ∧ o + ti.size ≤ us.length ∧ ct'.size = ct.size ∧ (∀ x ∈ u.cells.toList, x.oneCell' = true) ∧ ∀ c', C.Le c c' → RCt c' ct' (us.take o ++ u.cells.toList ++ us.drop (o + u.cells.toList.length)) := fun hp => by
    unfold Ctn.byCells at hp
    split at hp
    · rename_i m hm
      split at hp
      · rename_i hc
        simp only [Bool.and_eq_true, beq_iff_eq, decide_eq_true_eq] at hc
        obtain ⟨hm1, hm2⟩ := hc
        obtain rfl := Option.some.inj hp
        obtain ⟨q1, q2⟩ := hy.cells hm
        have ql := q1.length
        simp only [Array.length_toList] at ql
        have hcl := ct.cells_length
        refine ⟨by omega, by omega, by show (splice ct.cells o m).length = ct.size; rw [splice_length hm2, hcl], q2, fun c' hle => ?_⟩
        have := splice_RVs (o := o) h.cells q1
        rw [show u.cells.toList.length = m.length from by simp [ql]]
        exact RVs.le hle _ _ this
      · cases hp
    · cases hp
  unfold Ctn.put at hp
  split at hp
  · rename_i q e
    split at hp
    · rename_i tt htt
      split at hp
      · rename_i d hd
        split at hp
        · rename_i e' he'
          obtain rfl := Option.some.inj hp
          have hd' := asD_sound hy hd
          have hdl := hd'.length
          obtain ⟨h1, h2⟩ := Tp.upd_sound hd' h he'
          have hts := hti _ htt
          simp only [Array.length_toList] at hdl
          simp only [Ctn.size] at hl
          refine ⟨by omega, by omega, rfl, hd'.one, fun c' hle => ?_⟩
          rw [show u.cells.toList.length = tt.size from by simp [hdl]]
          exact Rp.le hle.toLe0 h1
        · exact byC hp
      · exact byC hp
    · exact byC hp
  · rename_i l
    split at hp
    · rename_i q e
      split at hp
      · rename_i hc
        simp only [Bool.and_eq_true, beq_iff_eq] at hc
        obtain ⟨⟨rfl, hq1⟩, hq2⟩ := hc
        obtain rfl := Option.some.inj hp
        simp only [RV] at hy
        obtain ⟨vs, rfl, hr⟩ := hy
        have hrl := hr.length
        simp only [Ctn.size] at hl
        have e1 : (Value.agg vs).cells = vs := rfl
        rw [e1]
        simp only [Array.length_toList] at hrl
        refine ⟨by omega, by omega, hq1, hr.one, fun c' hle => ?_⟩
        rw [List.drop_of_length_le (by simp; omega)]
        simp only [List.take_zero, List.nil_append, List.append_nil]
        exact Rp.le hle.toLe0 hr
      · exact byC hp
    · exact byC hp
theorem store_sound (h : Holds w0 fp c s a) {t : TypeId} {x y : V} {u u' : Value} {s' : S} (ho : (T t).ok = true) (hx : RV c x u) (hy : RV c y u') (hop : opStore T s t x y = .skip s') :
    Skips P w0 fp c s s' a (readsV x) (fun w => (Instr.storeAt t u u').run P w) := by
  unfold opStore at hop
  cases x with
  | lp v o =>
    simp only at hop
    split at hop
    case isTrue => cases hop
    rename_i hnl
    have hnl : fp.lk.has (.v v) = false := by rw [← h.lk]; simpa using hnl
    cases hb : s.vars[v]? with
    | none => simp [hb] at hop
    | some b =>
      simp only [hb] at hop
      split at hop
      case isFalse => cases hop
      rename_i hlv
      split at hop
      case h_2 => cases hop
      rename_i ct hct
      obtain rfl := R.skip.inj hop
      simp only [RV] at hx
      obtain ⟨_, rfl⟩ := hx
      obtain ⟨us, hu, hr⟩ := (h.vars v b hb hlv).at_
      obtain ⟨p1, p2, p3, p4, p5⟩ := Ctn.put_sound (fun q hq => (hT.tpOK ho hq).1) hr hy hct
      have hls : (us.take o ++ u'.cells.toList ++ us.drop (o + u'.cells.toList.length)).length = us.length := by simp; omega
      obtain ⟨cur, el, h1, h2, h3, h4, h5⟩ := h.setVar hnl hb hlv hu hr.length hls (fun w' hle => p5 _ hle) p3
      refine ⟨_, ?_, h4, StepOK.of h (c' := c.world _) h5 (fun k o hd => ⟨_, by simp [readsV], hd⟩) (fun _ _ z => z) (fun q k o hq hf => ?_)⟩
      case refine_2 =>
        cases q with
        | v x =>
          have hne : x ≠ v := fun e => hq (by simp [readsV, e])
          obtain ⟨b1, hb1, hl1, hk1⟩ := hf
          exact ⟨b1, by rw [List.getElem?_set_ne (Ne.symm hne)]; exact hb1, hl1, hk1⟩
        | r x => exact hf
        | o x => exact hf
      simp only [Instr.storeAt, Instr.sureAddr, Sem.run_bind, Sem.run_pure, Result.andThen_ok]
      have := hT.run_storeVar ho c.w (c.g v).1 ((c.g v).2 + o) el cur u' h1 p1 (by omega) p4
      rw [this]
      refine congrArg (fun l : List Value => Result.ok () (c.w.setRow (c.g v).1 l.toArray)) ?_
      have := splice_eq (m := u'.cells.toList) (o := o) h3 (by simpa using h2) (by simp; omega)
      simpa only [Array.length_toList] using this
  | op r sz i j =>
    simp only at hop
    split at hop
    case isTrue => cases hop
    rename_i hnl
    have hnl : fp.lk.has (.r r) = false := by rw [← h.lk]; simpa using hnl
    cases hb : s.rows[r]? with
    | none => simp [hb] at hop
    | some b =>
      simp only [hb] at hop
      split at hop
      case isFalse => cases hop
      rename_i hcond
      simp only [Bool.and_eq_true, beq_iff_eq] at hcond
      obtain ⟨hlive, rfl⟩ := hcond
      split at hop
      case h_2 => cases hop
      rename_i tt htt
      split at hop
      case h_2 => cases hop
      rename_i d hd
      split at hop
      case h_2 => cases hop
      rename_i e' he'
      obtain rfl := R.skip.inj hop
      simp only [RV] at hx
      obtain ⟨_, g, o, n, cap, hrr, h0, h1, rfl⟩ := hx
      obtain ⟨us, rfl, hat, hcells, hl, hlen⟩ := h.rowAt hb hlive hrr (by omega)
      obtain ⟨he, hle⟩ := elem_at hl h0 (by omega)
      have hd' := asD_sound hy hd
      have hdl := hd'.length
      simp only [Array.length_toList] at hdl
      obtain ⟨q1, q2⟩ := Tp.upd_sound hd' he he'
      obtain ⟨e1, _⟩ := hT.tpOK ho htt
      have hset := hl.set (fun _ _ h => h.length) i.val.toNat h1 q1
      have hel : ((us.drop (i.val.toNat * b.t.size)).take b.t.size).length = b.t.size := by simp; omega
      have key := splice_eq (cur := us) (us := (us.drop (i.val.toNat * b.t.size)).take b.t.size) (m := u'.cells.toList) (p := i.val.toNat * b.t.size) (o := j) (by rw [hel]) (by rw [hel]; exact hle) (by rw [hel]; simp; omega)
      rw [hel] at key
      rw [show tt.size = u'.cells.toList.length from by simp [hdl]] at hset
      rw [← key] at hset
      have hls : (us.take (i.val.toNat * b.t.size + j) ++ u'.cells.toList ++ us.drop (i.val.toNat * b.t.size + j + u'.cells.toList.length)).length = us.length := by simp; omega
      obtain ⟨cur, el, p1, p2, p3, p4, p5⟩ := h.setRow hnl hb hlive hrr (by omega) hat hls (by simp) hset
      rw [natI_val]
      refine ⟨_, ?_, p4, StepOK.of h (c' := c.world _) p5 (fun k o hd => ⟨_, by simp [readsV], hd⟩) (fun _ _ z => z) (fun q k o hq hf => ?_)⟩
      case refine_2 =>
        cases q with
        | v x => exact hf
        | r x =>
          have hne : x ≠ r := fun e => hq (by simp [readsV, e])
          obtain ⟨b1, hb1, hl1, hk1⟩ := hf
          exact ⟨b1, by rw [List.getElem?_set_ne (Ne.symm hne)]; exact hb1, hl1, hk1⟩
        | o x => exact hf
      simp only [Instr.storeAt, Instr.sureAddr, Sem.run_bind, Sem.run_pure, Result.andThen_ok]
      have := hT.run_storeVar ho c.w g (o + (i.val.toNat * b.t.size + j)) el cur u' p1 (by omega) (by omega) hd'.one
      rw [this]
      refine congrArg (fun l : List Value => Result.ok () (c.w.setRow g l.toArray)) ?_
      have := splice_eq (m := u'.cells.toList) (o := i.val.toNat * b.t.size + j) p3 (by simpa using p2) (by simp; omega)
      simpa only [Array.length_toList] using this
  | _ => cases hop

/-! ### Addresses -/
omit hT in
theorem Holds.like (h : Holds w0 fp c s a) {s' : S} (e1 : s'.tmps = s.tmps) (e2 : s'.vars = s.vars) (e3 : s'.rows = s.rows) (e4 : s'.objs = s.objs) (e5 : s'.lk = s.lk) : Holds w0 fp c s' a := h.same e2 e3 (by rw [e1]; exact h.tmps) h.defers e4 e5
theorem indexAddr_sound (h : Holds w0 fp c s a) {t : TypeId} {x ix v : V} {u u' : Value} {s' : S} (hx : RV c x u) (hix : RV c ix u') (hop : opIndexAddr T s t x ix = .ok v s') (hn : needsOK s'.needs) :
    Tells P w0 fp c s s' a (.free []) (fun w => (Instr.indexAt t u u').run P w) v := by
  have hd := hT.desc t
  unfold opIndexAddr at hop
  split at hop
  · -- a local array
    rename_i _ _ v' o k i n e hde
    rw [hde] at hd
    have hd' : P.underlying t = some (.array n e) := hd
    split at hop
    · rename_i hc
      obtain ⟨rfl, rfl⟩ := R.ok.inj hop
      simp only [RV] at hx hix
      obtain ⟨hlt, rfl⟩ := hx
      subst hix
      refine h.still (u := .pointer (some ⟨(c.g v').1, (c.g v').2 + (o + i.toNat * (T e).size), none⟩)) ?_ (by simp only [RV]; exact ⟨hlt, trivial⟩)
      intro w' _
      simp only [Instr.indexAt, asIntOf, Sem.run_bind, Sem.run_pure, Result.andThen_ok, run_underlying hd' w', Instr.sureAddr, I.val, if_pos (And.intro hc.1 hc.2.1), hT.run_size hc.2.2, add_at, Nat.add_assoc]
    · cases hop
  · -- a slice that is read
    rename_i _ _ q n l k i e hde
    rw [hde] at hd
    have hd' : P.underlying t = some (.slice e) := hd
    split at hop
    · rename_i hsz
      simp only [Bool.and_eq_true, beq_iff_eq] at hsz
      obtain ⟨hsz, hok⟩ := hsz
      have key : 0 ≤ i.val ∧ i.val < n.val ∧ v = .rp q l i 0 ∧ s'.tmps = s.tmps ∧ s'.vars = s.vars ∧ s'.rows = s.rows ∧ s'.objs = s.objs ∧ s'.lk = s.lk := by
        split at hop
        · split at hop
          · rename_i hc
            obtain ⟨rfl, rfl⟩ := R.ok.inj hop
            exact ⟨hc.1, hc.2, rfl, rfl, rfl, rfl, rfl, rfl⟩
          · cases hop
        · obtain ⟨rfl, rfl⟩ := R.ok.inj hop
          exact ⟨hn.1.1, hn.1.2, rfl, rfl, rfl, rfl, rfl, rfl⟩
      obtain ⟨h0, h1, rfl, e1, e2, e3, e4, e5⟩ := key
      simp only [RV, Rp, List.cons.injEq, and_true] at hx hix
      obtain ⟨hnl, A, cp, rfl, g1, g2, g3⟩ := hx
      subst hix
      rcases g3 with rfl | ⟨g, o, vs, rfl, hseg, hl⟩
      · simp at hnl; omega
      refine (h.like e1 e2 e3 e4 e5).still (e1 := e2) (e2 := e3) (e3 := e4) (u := .pointer (some ⟨g, o + (i.val.toNat * q.size + 0), none⟩)) ?_ ?_
      · intro w' _
        simp only [Instr.indexAt, asIntOf, Sem.run_bind, Sem.run_pure, Result.andThen_ok, run_underlying hd' w']
        rw [if_pos ⟨h0, by omega⟩]
        simp [hT.run_size hok, hsz, add_at]
      · simp only [RV]
        exact ⟨h0, by omega, g, o, vs, rfl, hseg, hl⟩
    · cases hop
  · -- a row of one's own
    rename_i _ _ r k i e hde
    rw [hde] at hd
    have hd' : P.underlying t = some (.slice e) := hd
    cases hb : s.rows[r]? with
    | none => simp [hb] at hop
    | some b =>
      simp only [hb] at hop
      split at hop
      case isFalse => cases hop
      rename_i hcond
      simp only [Bool.and_eq_true, beq_iff_eq] at hcond
      obtain ⟨⟨hlive, hsz⟩, hok⟩ := hcond
      have key : 0 ≤ i.val ∧ i.val < b.n.val ∧ v = .op r b.t.size i 0 ∧ s'.tmps = s.tmps ∧ s'.vars = s.vars ∧ s'.rows = s.rows ∧ s'.objs = s.objs ∧ s'.lk = s.lk := by
        split at hop
        · rename_i hbn
          split at hop
          · rename_i hc
            obtain ⟨rfl, rfl⟩ := R.ok.inj hop
            exact ⟨hc.1, by rw [hbn]; exact hc.2, rfl, rfl, rfl, rfl, rfl, rfl⟩
          · cases hop
        · obtain ⟨rfl, rfl⟩ := R.ok.inj hop
          exact ⟨hn.1.1, hn.1.2, rfl, rfl, rfl, rfl, rfl, rfl⟩
      obtain ⟨h0, h1, rfl, e1, e2, e3, e4, e5⟩ := key
      have hro := h.rows r b hb hlive
      obtain ⟨us, hown, _⟩ := hro.at_
      have hlen := hro.len
      simp only [RV] at hx hix
      obtain ⟨hlt, rfl, _⟩ := hx
      subst hix
      rcases hown.at_ with ⟨_, hz⟩ | ⟨_, hz, _⟩ | ⟨g, o, cap, hv, _⟩
      · omega
      · omega
      refine (h.like e1 e2 e3 e4 e5).still (e1 := e2) (e2 := e3) (e3 := e4) (u := .pointer (some ⟨g, o + (i.val.toNat * b.t.size + 0), none⟩)) ?_ ?_
      · rw [hv]
        intro w' _
        simp only [Instr.indexAt, asIntOf, Sem.run_bind, Sem.run_pure, Result.andThen_ok, run_underlying hd' w']
        rw [if_pos ⟨h0, by omega⟩]
        simp [hT.run_size hok, hsz, add_at]
      · simp only [RV]
        exact ⟨hlt, g, o, _, cap, hv, h0, by omega, rfl⟩
  · -- a part of a row of one's own
    rename_i _ _ r sz lo n k i e hde
    rw [hde] at hd
    have hd' : P.underlying t = some (.slice e) := hd
    split at hop
    case isFalse => cases hop
    rename_i hcond
    simp only [Bool.and_eq_true, beq_iff_eq] at hcond
    obtain ⟨hsz, hok⟩ := hcond
    have key : 0 ≤ i.val ∧ i.val < n.val ∧ v = .op r sz (addI lo i) 0 ∧ s'.tmps = s.tmps ∧ s'.vars = s.vars ∧ s'.rows = s.rows ∧ s'.objs = s.objs ∧ s'.lk = s.lk := by
      split at hop
      · split at hop
        · rename_i hc
          obtain ⟨rfl, rfl⟩ := R.ok.inj hop
          exact ⟨hc.1, hc.2, rfl, rfl, rfl, rfl, rfl, rfl⟩
        · cases hop
      · obtain ⟨rfl, rfl⟩ := R.ok.inj hop
        exact ⟨hn.1.1, hn.1.2, rfl, rfl, rfl, rfl, rfl, rfl⟩
    obtain ⟨h0, h1, rfl, e1, e2, e3, e4, e5⟩ := key
    simp only [RV] at hx hix
    obtain ⟨hlt, A, m, cap, A', cp, hr, hA, l0, n0, hm, rfl, hcp, hcpm, hA'⟩ := hx
    subst hix
    obtain ⟨g, o, rfl⟩ : ∃ g o, A = some ⟨g, o, none⟩ := hA.resolve_left (by omega)
    refine (h.like e1 e2 e3 e4 e5).still (e1 := e2) (e2 := e3) (e3 := e4) (u := .pointer (some ⟨g, o + ((addI lo i).val.toNat * sz + 0), none⟩)) ?_ ?_
    · intro w' _
      rw [hA'.1 (.inl (by omega))]
      simp only [Option.map_some, Instr.indexAt, asIntOf, Sem.run_bind, Sem.run_pure, Result.andThen_ok, run_underlying hd' w']
      rw [if_pos ⟨h0, by omega⟩]
      have ha : (addI lo i).val.toNat = lo.val.toNat + i.val.toNat := by rw [addI_val]; omega
      simp [hT.run_size hok, hsz, add_at, ha, Nat.add_mul, Nat.add_assoc]
    · simp only [RV]
      exact ⟨hlt, g, o, m, cap, hr, by rw [addI_val]; omega, by rw [addI_val]; omega, rfl⟩
  · cases hop

theorem fieldAddr_sound (h : Holds w0 fp c s a) {t : TypeId} {x v : V} {u : Value} {s' : S} {f : Nat} {fs : List (Nat × TypeId)} {off e : Nat} (hx : RV c x u) (hd : (T t).d = .struct fs) (hf : fs[f]? = some (off, e))
    (hop : (match x with | .lp v o => R.ok (.lp v (o + off)) s | .rp q l i j => .ok (.rp q l i (j + off)) s | .op r sz i j => .ok (.op r sz i (j + off)) s | _ => .stuck) = .ok v s') :
    s' = s ∧ Tells P w0 fp c s s a (.free []) (fun w => (Instr.fieldAt t u f).run P w) v := by
  have hdt := hT.desc t
  rw [hd] at hdt
  obtain ⟨hd1, hd2, hd3⟩ := hdt
  subst hd2
  simp only [List.getElem?_map, Option.map_eq_some_iff] at hf
  obtain ⟨fl, hfl, he⟩ := hf
  simp only [Prod.mk.injEq] at he
  obtain ⟨rfl, rfl⟩ := he
  have hfa : (P.fieldsOf t)[f]? = some fl := by simpa using hfl
  have hsz : ∃ i, P.info? fl.type = some i ∧ i.size ≠ 0 := by
    have := List.all_eq_true.1 hd3 fl (List.mem_of_getElem? hfl)
    simp only [Option.any_eq_true_iff_get] at this
    obtain ⟨h1, h2⟩ := this
    exact ⟨_, (Option.some_get h1).symm, by simpa using h2⟩
  obtain ⟨i, hi, hne⟩ := hsz
  have run : ∀ (ad : Addr) (w' : World), AgreeOn (RF c s []) c.w w' → (Instr.fieldAt t (.pointer (some ad)) f).run P w' = .ok (.pointer (some (ad.add fl.offset))) w' := fun ad w' _ => by
    simp [Instr.fieldAt, run_underlying hd1, hfa, Instr.sureAddr, fieldPlace, sizeOf, typeInfo, hi, hne]
  cases x with
  | lp v' o =>
    obtain ⟨rfl, rfl⟩ := R.ok.inj hop
    simp only [RV] at hx
    obtain ⟨hlt, rfl⟩ := hx
    exact ⟨rfl, h.still (run _) (by simp only [RV, add_at, Nat.add_assoc]; exact ⟨hlt, trivial⟩)⟩
  | rp q l i' j =>
    obtain ⟨rfl, rfl⟩ := R.ok.inj hop
    simp only [RV] at hx
    obtain ⟨h0, h1, g, o, vs, rfl, hs, hl⟩ := hx
    exact ⟨rfl, h.still (run _) (by simp only [RV, add_at, Nat.add_assoc]; exact ⟨h0, h1, g, o, vs, rfl, hs, hl⟩)⟩
  | op r sz i' j =>
    obtain ⟨rfl, rfl⟩ := R.ok.inj hop
    simp only [RV] at hx
    obtain ⟨hlt, g, o, n, cap, hr, h0, h1, rfl⟩ := hx
    exact ⟨rfl, h.still (run _) (by simp only [RV, add_at, Nat.add_assoc]; exact ⟨hlt, g, o, n, cap, hr, h0, h1, rfl⟩)⟩
  | _ => cases hop
end
end Go.Fx
