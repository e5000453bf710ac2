/- Still more operations. -/
import Derived.Test.YtplefbcgpbdkfaaDoorFi
import Derived.Laws.MakeOwn
set_option linter.all false
namespace Go.Fx
open Go Go.RowKit
section
variable {P : Program} {T : TypeId → TI} (hT : TabOK P T) {w0 : World} {fp : Base} {c : C} {s : S} {a : Act}

theorem sameI_spec {x y : Operand} {p q : I} (h : sameI x y p q = true) (hx : ∀ i, x = .tmp i → y = .tmp i → p = q) : p.val = q.val := by
  unfold sameI at h
  split at h
  · simp only [beq_iff_eq] at h; subst h; rfl
  · simp only [beq_iff_eq] at h; subst h; rw [hx _ rfl rfl]
  · cases h
include hT in
theorem makeSlice_sound (h : Holds w0 fp c s a) {t e : TypeId} {n m : I} {k k' : IntKind} {q : Tp} (hdt : (T t).d = .slice e) (hq : (T e).tp = some q) (hok : (T e).ok = true) (hb : 0 < (T e).bytes) (hqs : q.size = (T e).size) (hnm : n.val = m.val) (hr : (Need.room n.val (T e).bytes).ok) :
    Tells P w0 fp c s { s with rows := s.rows ++ [⟨true, false, e, q, n, List.replicate (natI n) q.z⟩], needs := .room n.val (T e).bytes :: s.needs } a .make (fun w => (Instr.makeSlice t (.int k n.val) (.int k' m.val)).run P w) (.own s.rows.length) := by
  rw [← hnm]
  have hd := hT.desc t
  rw [hdt] at hd
  have hd1 : P.underlying t = some (.slice e) := hd
  have hs0 : 0 < (T e).size := by rw [← hqs]; exact q.size_pos
  obtain ⟨_, _, hzc, _⟩ := hT.tpOK hok hq
  have hzs := (hT.ok e hok).zsz
  have hinfo := (hT.ok e hok).info
  obtain ⟨i, hi, hie⟩ := Option.map_eq_some_iff.1 hinfo
  simp only [Prod.mk.injEq] at hie
  obtain ⟨hiz, his, hib⟩ := hie
  simp only [Need.ok] at hr
  obtain ⟨h0, h1⟩ := hr
  obtain ⟨N, hN⟩ := Int.eq_ofNat_of_zero_le h0
  have hnat : natI n = N := by rw [natI_val, hN]; rfl
  rw [hN] at h1 ⊢
  have hN1 : N ≤ 140737488355328 := by
    have : N * 1 ≤ N * (T e).bytes := Nat.mul_le_mul_left _ hb
    have h1' : ((N * (T e).bytes : Nat) : Int) ≤ 140737488355328 := by push_cast; exact h1
    omega
  have hrun := run_make (P := P) c.w t e i (T e).zero hd1 hi hiz k k' N N (Int.natCast_nonneg N) (Int.le_refl _) (by rw [hib, Int.mul_comm]; omega) (by omega)
  simp only [Int.toNat_natCast, his] at hrun
  have hlist : (madeCells (T e).zero.cells (N * (T e).size)).toList = (List.range N).flatMap fun _ => (T e).zero.cells.toList := by
    have : madeCells (T e).zero.cells (N * (T e).size) = (Array.range (N * (T e).size)).map (fun i => (T e).zero.cells[i % (T e).zero.cells.size]!) := rfl
    rw [this, zeros_flat _ N _ hzs hs0, zero_list _ _ hzs]
  have hz0 : RpL (Rp c q) (List.replicate N q.z) (madeCells (T e).zero.cells (N * (T e).size)).toList := by
    rw [hlist, hzc]
    exact RpL.replicate q.zc_sound N
  have hcap : N ≤ maxLen := by unfold maxLen; omega
  have hsz : (madeCells (T e).zero.cells (N * (T e).size)).size = N * (T e).size := size_madeCells _ _
  have hat : RowAt (c.w.alloc (.cells (madeCells (T e).zero.cells (N * (T e).size)) e)) false e q.size (.slice (some ⟨c.w.heap.size, 0, none⟩) N N) (List.replicate (natI n) q.z).length (madeCells (T e).zero.cells (N * (T e).size)).toList := by
    rw [hnat, List.length_replicate]
    refine ⟨by rw [hqs]; simpa using hsz, .inr (.inr ⟨c.w.heap.size, 0, N, rfl, Nat.le_refl _, hcap, ⟨_, e, heap_alloc_new c.w _, by simp, by rw [List.drop_zero, List.take_length]⟩, fun _ => ⟨rfl, _, heap_alloc_new c.w _, by rw [hsz, hqs]⟩⟩)⟩
  obtain ⟨le, hh⟩ := h.newRow (⟨true, false, e, q, n, List.replicate (natI n) q.z⟩ : Row) (v := .slice (some ⟨c.w.heap.size, 0, none⟩) N N) (w' := c.w.alloc (.cells (madeCells (T e).zero.cells (N * (T e).size)) e)) (us := (madeCells (T e).zero.cells (N * (T e).size)).toList) (Keeps.alloc _ _ _) hat (by rw [hnat]; simp [hN]) (by rw [hnat]; exact hz0)
    (fun k o hf => by simp only [rowF] at hf; rw [hf.1]; exact Nat.le_refl _)
  refine ⟨.slice (some ⟨c.w.heap.size, 0, none⟩) N N, c.newRow (.slice (some ⟨c.w.heap.size, 0, none⟩) N N) (c.w.alloc (.cells (madeCells (T e).zero.cells (N * (T e).size)) e)), hrun, hh.needs _, ?_, (fun _ h => by cases h), StepOK.newRow h (Keeps.alloc _ _ _) []⟩
  simp only [RV, C.newRow]
  exact ⟨by rw [h.nr]; omega, by rw [if_pos h.nr.symm], by rw [if_pos h.nr.symm]; rfl⟩
theorem intV_sound {v : V} {u : Value} {n : I} (h : RV c v u) (hv : intV v = some n) : ∃ k, u = .int k n.val := by
  unfold intV at hv
  split at hv
  · injection hv with e; subst e
    simp only [RV] at h
    exact ⟨_, h⟩
  · cases hv
theorem evs_RVs (h : RVs c s.tmps a.tmps.toList) (l : List Operand) : RVs c (l.map (ev s)) (l.map a.eval) := by
  induction l with
  | nil => exact .nil
  | cons x l ih => exact .cons (RV.ev h x) ih
theorem run_cutStr {t : TypeId} (hu : P.underlying t = some .string) {w : World} {p : ByteArray} {lo hi : Option Value} {l h : Int} (hlo : (lo = none ∧ l = 0) ∨ ∃ k, lo = some (.int k l)) (hhi : (hi = none ∧ h = p.size) ∨ ∃ k, hi = some (.int k h)) (h0 : 0 ≤ l) (h1 : l ≤ h) (h2 : h ≤ p.size) :
    (Instr.sliceAt t (.string p) lo hi none).run P w = .ok (.string (strCut p l h)) w := by
  obtain ⟨l, rfl⟩ := Int.eq_ofNat_of_zero_le h0
  obtain ⟨h, rfl⟩ := Int.eq_ofNat_of_zero_le (Int.le_trans h0 h1)
  have a1 : l ≤ h := by omega
  have a2 : h ≤ p.size := by omega
  rcases hlo with ⟨rfl, e⟩ | ⟨k, rfl⟩ <;> rcases hhi with ⟨rfl, e'⟩ | ⟨k', rfl⟩
  · obtain rfl : l = 0 := by omega
    obtain rfl : h = p.size := by omega
    simp [Instr.sliceAt, run_underlying hu, Instr.slice, Instr.sliceBounds, strCut]
  · obtain rfl : l = 0 := by omega
    simp [Instr.sliceAt, run_underlying hu, Instr.slice, Instr.sliceBounds, Instr.sliceBound, asIntOf, strCut, a2]
  · obtain rfl : h = p.size := by omega
    simp [Instr.sliceAt, run_underlying hu, Instr.slice, Instr.sliceBounds, Instr.sliceBound, asIntOf, strCut, a1]
  · simp [Instr.sliceAt, run_underlying hu, Instr.slice, Instr.sliceBounds, Instr.sliceBound, asIntOf, strCut, a1, a2]
/-! ### Objects that are made, and turned -/
theorem Keeps.trans0 {w w' w'' : World} {D D' : Foot} (h : Keeps w w' D) (h' : Keeps w' w'' D') (hD : ∀ k o, k < w.heap.size → D' k o → D k o) : Keeps w w'' D :=
  ⟨h'.os.trans h.os, h'.tape.trans h.tape, h'.output.trans h.output, Nat.le_trans h.size h'.size, fun k o hlt hn => (h'.spot k o (Nat.lt_of_lt_of_le hlt h.size) (fun q => hn (hD k o hlt q))).trans (h.spot k o hlt hn), fun k cs e f hk => by
    obtain ⟨c1, q1, q2⟩ := h.shape k cs e f hk
    obtain ⟨c2, q3, q4⟩ := h'.shape k c1 e f q1
    exact ⟨c2, q3, q4.trans q2⟩, Nat.le_trans h.drawn h'.drawn⟩
def C.newOb (c : C) (v : Value) (D : Foot) (w' : World) : C := { c with w := w', ob := fun x => if x = c.nb then v else c.ob x, fo := fun x => if x = c.nb then D else c.fo x, nb := c.nb + 1 }
theorem Holds.newOb (h : Holds w0 fp c s a) (b : Ob) {v : Value} {D : Foot} {w' : World} (hk : Keeps c.w w' (fun _ _ => False)) (ho : ObjOK fp.K w' c.F b v D) (hD : ∀ k o, D k o → c.w.heap.size ≤ k) :
    C.Le c (c.newOb v D w') ∧ Holds w0 fp (c.newOb v D w') { s with objs := s.objs ++ [b] } a := by
  have le : c.Le (c.newOb v D w') := { h.le0 (c' := c.newOb v D w') hk (fun _ _ h => h.elim) rfl with
    g := fun _ _ => rfl, nv := Nat.le_refl _, r := fun _ _ => rfl, nr := Nat.le_refl _
    ob := fun x hx => by simp only [C.newOb]; rw [if_neg (by omega)]
    nb := Nat.le_succ _ }
  have hff : ∀ q k o, foot (c.newOb v D w') { s with objs := s.objs ++ [b] } q k o → foot c s q k o ∨ (q = .o c.nb ∧ c.w.heap.size ≤ k) := by
    intro q k o hq
    cases q with
    | v x => exact .inl hq
    | r x => exact .inl hq
    | o x =>
      obtain ⟨b0, hb, hl, hf⟩ := hq
      simp only [List.getElem?_append] at hb
      simp only [C.newOb] at hf
      split at hb
      · rename_i hx
        rw [if_neg (by rw [h.nb]; omega)] at hf
        exact .inl ⟨b0, hb, hl, hf⟩
      · have hx := (List.getElem?_eq_some_iff.1 hb).1
        simp at hx
        have hx2 : x = c.nb := by rw [h.nb]; omega
        rw [if_pos hx2] at hf
        exact .inr ⟨by rw [hx2], hD k o hf⟩
  refine ⟨le, { gl := fun p hp => ⟨le.F _ _ (h.gl p hp).1, cell_of_spot (le.spot _ _ (h.gl p hp).1) (h.gl p hp).2⟩, fpk := h.fpk, lk := h.lk, keeps := h.keeps.trans0 hk (fun _ _ _ q => q.elim), eF := h.eF, eF2 := h.eF2, tmps := RVs.le le _ _ h.tmps, defers := h.defers, nv := h.nv, nr := h.nr, nb := by simp [C.newOb, h.nb], vars := ?_, rows := ?_, objs := ?_, disj := ?_, mine := ?_, free := ?_, flt := fun k o hf => Nat.lt_of_lt_of_le (h.flt k o hf) hk.size, ag := h.ag, ar := h.ar, ao := ?_ }⟩
  · intro x b0 hb hl
    exact (h.vars x b0 hb hl).keep (fun k o hf => hk.spot k o (foot_lt h (q := .v x) ⟨b0, hb, hl, hf⟩) (fun q => q)) rfl rfl (fun us hr => hr.le le)
  · intro x b0 hb hl
    exact (h.rows x b0 hb hl).keep (fun k o hf => hk.spot k o (foot_lt h (q := .r x) ⟨b0, hb, hl, hf⟩) (fun q => q)) rfl le.toLe0
  · intro x b0 hb hl
    simp only [List.getElem?_append] at hb
    simp only [C.newOb]
    split at hb
    · rename_i hx
      rw [if_neg (by rw [h.nb]; omega), if_neg (by rw [h.nb]; omega)]
      have h0 := h.objs x b0 hb hl
      exact h0.keep (fun _ _ q => q) (fun k o q => hk.spot k o (q.elim (h0.2.1 k o) (h.flt k o)) (fun q => q)) hk.size
    · have hx := (List.getElem?_eq_some_iff.1 hb).1
      simp at hx
      have hx2 : x = c.nb := by rw [h.nb]; omega
      have hx3 : x - s.objs.length = 0 := by rw [← h.nb]; omega
      rw [hx3] at hb
      simp at hb
      subst hb
      rw [if_pos hx2, if_pos hx2]
      exact ho
  · intro q q' k o h1 h2
    rcases hff q k o h1 with p1 | ⟨p1, g1⟩
    · rcases hff q' k o h2 with p2 | ⟨_, g2⟩
      · exact h.disj q q' k o p1 p2
      · exact absurd (foot_lt h p1) (by omega)
    · rcases hff q' k o h2 with p2 | ⟨p2, _⟩
      · exact absurd (foot_lt h p2) (by omega)
      · rw [p1, p2]
  · intro q k o h1
    rcases hff q k o h1 with p1 | ⟨_, g1⟩
    · exact h.mine q k o p1
    · exact ⟨.inl (Nat.le_trans h.keeps.size g1), fun hf => by have := h.flt k o hf; omega⟩
  · intro q k o h1 hq
    rcases hff q k o h1 with p1 | ⟨_, g1⟩
    · exact h.free q k o p1 hq
    · exact .inl (Nat.le_trans h.keeps.size g1)
  · intro x v0 hx
    obtain ⟨q1, b0, q2, q3⟩ := h.ao x v0 hx
    have hlt := (List.getElem?_eq_some_iff.1 q2).1
    exact ⟨by simp only [C.newOb]; rw [if_neg (by rw [h.nb]; omega)]; exact q1, b0, by simp only [List.getElem?_append_left hlt]; exact q2, q3⟩
theorem StepOK.newOb (h : Holds w0 fp c s a) {v : Value} {D : Foot} {w' : World} {b : Ob} (hk : Keeps c.w w' (fun _ _ => False)) (tch : List Rt) : StepOK c s (c.newOb v D w') { s with objs := s.objs ++ [b] } tch := by
  refine StepOK.of (D := fun _ _ => False) h hk (fun _ _ h => h.elim) (fun _ _ h => h) (fun q k o _ hq => ?_)
  cases q with
  | o x =>
    obtain ⟨b0, hb, hl, hf⟩ := hq
    have hx := (List.getElem?_eq_some_iff.1 hb).1
    refine ⟨b0, by simp only [List.getElem?_append_left hx]; exact hb, hl, ?_⟩
    simp only [C.newOb]
    rw [if_neg (by rw [h.nb]; omega)]
    exact hf
  | v x => exact hq
  | r x => exact hq
theorem Holds.setOb (h : Holds w0 fp c s a) {x : Nat} {b b' : Ob} (hb : s.objs[x]? = some b) (hlive : b.live = true) (hl' : b'.live = true) (hst : b'.k.still = b.k.still) {w' : World} (hk : Keeps c.w w' (foot c s (.o x))) (ho : ObjOK fp.K w' c.F b' (c.ob x) (c.fo x)) :
    C.Le c (c.world w') ∧ Holds w0 fp (c.world w') { s with objs := s.objs.set x b' } a := by
  have hlk : fp.lk.has (.o x) = false := by simp [LK.has, h.fpk.o]
  have hD : ∀ k o, foot c s (.o x) k o → k < c.w.heap.size → (w0.heap.size ≤ k ∨ fp.kp k o) ∧ ¬ c.F k o := fun k o hf _ => ⟨h.free _ k o hf hlk, (h.mine _ k o hf).2⟩
  have le : c.Le (c.world w') := { h.le0 (c' := c.world w') hk hD rfl with g := fun _ _ => rfl, nv := Nat.le_refl _, r := fun _ _ => rfl, nr := Nat.le_refl _, ob := fun _ _ => rfl, nb := Nat.le_refl _ }
  have hff : ∀ q k o, foot (c.world w') { s with objs := s.objs.set x b' } q k o → foot c s q k o := by
    intro q k o hq
    cases q with
    | v y => exact hq
    | r y => exact hq
    | o y =>
      obtain ⟨b0, hb0, hl0, hf⟩ := hq
      rcases set_get hb0 with ⟨rfl, _⟩ | ⟨_, hb0⟩
      · exact ⟨b, hb, hlive, hf⟩
      · exact ⟨b0, hb0, hl0, hf⟩
  refine ⟨le, { gl := fun p hp => ⟨le.F _ _ (h.gl p hp).1, cell_of_spot (le.spot _ _ (h.gl p hp).1) (h.gl p hp).2⟩, fpk := h.fpk, lk := h.lk, keeps := h.keeps.trans0 hk (fun k o hlt q => ?_), eF := h.eF, eF2 := h.eF2, tmps := RVs.le le _ _ h.tmps, defers := h.defers, nv := h.nv, nr := h.nr, nb := by simp [C.world, h.nb], vars := ?_, rows := ?_, objs := ?_, disj := fun q q' k o h1 h2 => h.disj q q' k o (hff q k o h1) (hff q' k o h2), mine := fun q k o h1 => h.mine q k o (hff q k o h1), free := fun q k o h1 hq => h.free q k o (hff q k o h1) hq, flt := fun k o hf => Nat.lt_of_lt_of_le (h.flt k o hf) hk.size, ag := h.ag, ar := h.ar, ao := ?_ }⟩
  · rcases h.free _ k o q hlk with p | p
    · omega
    · exact p
  · intro y b0 hb0 hl0
    exact (h.vars y b0 hb0 hl0).keep (fun k o hf => hk.spot k o (foot_lt h (q := .v y) ⟨b0, hb0, hl0, hf⟩) (fun q => by cases h.disj _ (.v y) k o q ⟨b0, hb0, hl0, hf⟩)) rfl rfl (fun us hr => hr.le le)
  · intro y b0 hb0 hl0
    exact (h.rows y b0 hb0 hl0).keep (fun k o hf => hk.spot k o (foot_lt h (q := .r y) ⟨b0, hb0, hl0, hf⟩) (fun q => by cases h.disj _ (.r y) k o q ⟨b0, hb0, hl0, hf⟩)) rfl le.toLe0
  · intro y b0 hb0 hl0
    rcases set_get hb0 with ⟨rfl, rfl⟩ | ⟨hne, hb0⟩
    · exact ho
    · have h0 := h.objs y b0 hb0 hl0
      exact h0.keep (fun _ _ q => q) (fun k o q => hk.spot k o (q.elim (h0.2.1 k o) (h.flt k o)) (fun hd => q.elim (fun q => by
        have := h.disj _ (.o y) k o hd ⟨b0, hb0, hl0, q⟩
        injection this with e
        exact hne e) (fun q => (h.mine _ k o hd).2 q))) hk.size
  · intro y v0 hy
    obtain ⟨q1, b0, q2, q3⟩ := h.ao y v0 hy
    refine ⟨q1, ?_⟩
    by_cases e : x = y
    · subst e
      rw [hb] at q2
      obtain rfl := Option.some.inj q2
      have hlt := (List.getElem?_eq_some_iff.1 hb).1
      exact ⟨b', by simp [hlt], hl', by rw [hst]; exact q3.2⟩
    · exact ⟨b0, by simp only [List.getElem?_set_ne e]; exact q2, q3⟩
theorem StepOK.setOb (h : Holds w0 fp c s a) {x : Nat} {b b' : Ob} (hb : s.objs[x]? = some b) (hlive : b.live = true) (hl' : b'.live = true) {w' : World} (hk : Keeps c.w w' (Fx.foot c s (.o x))) : StepOK c s (c.world w') { s with objs := s.objs.set x b' } [.o x] := by
  refine StepOK.of h hk (fun k o hd => ⟨_, by simp, hd⟩) (fun _ _ h => h) (fun q k o hne hq => ?_)
  cases q with
  | o y =>
    obtain ⟨b0, hb0, hl0, hf⟩ := hq
    have hx : x ≠ y := fun e => hne (by simp [e])
    exact ⟨b0, by simp only [List.getElem?_set_ne hx]; exact hb0, hl0, hf⟩
  | v y => exact hq
  | r y => exact hq
/-! ### Texts that are gone through -/
theorem range_sound (h : Holds w0 fp c s a) {t : TypeId} (hu : P.underlying t = some .string) (x : ByteArray) :
    Tells P w0 fp c s { s with objs := s.objs ++ [⟨true, .it, tpIt, (x, (0 : Int))⟩] } a (.other []) (fun w => (Instr.range t (.string x)).run P w) (.obj s.objs.length) := by
  have hk : Keeps c.w (c.w.alloc (.stringIter x 0)) (fun _ _ => False) := Keeps.alloc _ _ _
  have hnew : (c.w.alloc (.stringIter x 0)).heap[c.w.heap.size]? = some (.stringIter x 0) := heap_alloc_new c.w _
  obtain ⟨le, hh⟩ := h.newOb ⟨true, .it, tpIt, (x, (0 : Int))⟩ (v := .pointer (some ⟨c.w.heap.size, 0, none⟩)) (D := fun k _ => k = c.w.heap.size) hk
    ⟨⟨1, ⟨_, rfl, Int.le_refl _, hnew, fun _ _ => Iff.rfl⟩⟩, fun k o q => by subst q; exact (Array.getElem?_eq_some_iff.1 hnew).1, rfl⟩ (fun k o q => by subst q; exact Nat.le_refl _)
  refine ⟨.pointer (some ⟨c.w.heap.size, 0, none⟩), _, ?_, hh, ?_, (fun _ h => by cases h), StepOK.newOb h hk _⟩
  · simp [Instr.range, run_underlying hu, C.newOb]
  · simp only [RV, C.newOb]
    exact ⟨by rw [h.nb]; omega, by rw [if_pos h.nb.symm], by rw [if_pos h.nb.symm]; rfl⟩
theorem run_getObj_ {w : World} {r : Nat} {ob : Obj} (h : w.heap[r]? = some ob) (hc : ∀ cs e f, ob ≠ .cells cs e f := by simp) : (getObj r).run P w = .ok ob w := by
  cases ob with
  | cells cs e f => exact absurd rfl (hc cs e f)
  | _ => simp [getObj, Sem.run, h]
theorem run_setObj_ {w : World} {r : Nat} {ob : Obj} (h : w.heap[r]? = some ob) (o : Obj) (hc : ∀ cs e f, ob ≠ .cells cs e f := by simp) : (setObj r o).run P w = .ok () { w with heap := w.heap.setIfInBounds r o } := by
  cases ob with
  | cells cs e f => exact absurd rfl (hc cs e f)
  | _ => simp [setObj, Sem.run, h]
theorem setBlock_keeps {w : World} {k : Nat} {ob ob' : Obj} (hk : w.heap[k]? = some ob) (hc : ∀ cs e f, ob ≠ .cells cs e f) : ({ w with heap := w.heap.setIfInBounds k ob' } : World).heap[k]? = some ob' ∧ Keeps w { w with heap := w.heap.setIfInBounds k ob' } (fun k' _ => k' = k) := by
  have hlt : k < w.heap.size := (Array.getElem?_eq_some_iff.1 hk).1
  refine ⟨by simp [hlt], ⟨rfl, rfl, rfl, by simp, fun k' o _ hn => spot_of_block (by simp only [Array.getElem?_setIfInBounds]; rw [if_neg (fun e => hn e.symm)]) o, fun k' cs e f hk' => ?_, Nat.le_refl _⟩⟩
  by_cases e0 : k = k'
  · subst e0
    rw [hk] at hk'
    exact absurd (Option.some.inj hk') (hc _ _ _)
  · exact ⟨cs, by simp only [Array.getElem?_setIfInBounds]; rw [if_neg e0]; exact hk', rfl⟩
theorem next_sound (h : Holds w0 fp c s a) {x : Nat} {u : Value} {t : TypeId} {v : V} {s' : S} (hx : RV c (.obj x) u) (hop : opNext s x = .ok v s') :
    Tells P w0 fp c s s' a (.other [.o x]) (fun w => (Instr.next u true t).run P w) v := by
  unfold opNext at hop
  split at hop
  case h_2 => cases hop
  rename_i b hb
  split at hop
  case isFalse => cases hop
  rename_i ht
  split at hop
  case isFalse => cases hop
  rename_i hc
  simp only [Bool.and_eq_true, decide_eq_true_eq, Bool.not_eq_true'] at hc
  obtain ⟨⟨hlive, hkd⟩, _⟩ := hc
  obtain ⟨live, kd, tb, e⟩ := b
  simp only at hkd hlive ht
  subst hkd hlive
  obtain rfl := Tp.of_eq ht
  obtain ⟨rfl, rfl⟩ := R.ok.inj hop
  rw [Tp.cast_rfl]
  simp only [RV] at hx
  obtain ⟨hlt, rfl, _⟩ := hx
  obtain ⟨⟨f, hobj⟩, hlt2, hone⟩ := h.objs x _ hb rfl
  cases f with
  | zero => exact hobj.elim
  | succ f =>
    obtain ⟨k0, h1, h2, h3, h4⟩ := hobj
    obtain ⟨tx, p⟩ := e
    simp only at h2 h3
    obtain ⟨p, rfl⟩ := Int.eq_ofNat_of_zero_le h2
    rw [Int.toNat_natCast] at h3
    rw [h1]
    simp only [runeAt, stepAt, Int.toNat_natCast]
    by_cases hp : p < tx.size
    · obtain ⟨q1, q2⟩ := setBlock_keeps (ob' := .stringIter tx (p + (Utf8.decode tx p).2)) h3 (fun _ _ _ => by simp)
      have hkp := q2.mono (D' := foot c s (.o x)) fun k o hd => ⟨_, hb, rfl, (h4 k o).2 hd⟩
      have hp' : (p : Int) < tx.size := by omega
      obtain ⟨le, hh⟩ := h.setOb hb rfl (b' := ⟨true, .it, tpIt, (tx, (p : Int) + ((Utf8.decode tx p).2 : Int))⟩) rfl rfl hkp
        ⟨⟨1, ⟨k0, h1, (by omega : (0 : Int) ≤ (p : Int) + ((Utf8.decode tx p).2 : Int)), q1, h4⟩⟩, fun k o q => by rw [(h4 k o).1 q]; exact (Array.getElem?_eq_some_iff.1 q1).1, hone⟩
      rw [if_pos hp']
      refine ⟨.tuple #[.bool true, .int .i64 p, .int .i32 (Utf8.decode tx p).1], _, ?_, hh, ?_, (fun _ h => by cases h), StepOK.setOb h hb rfl rfl hkp⟩
      · simp [Instr.next, run_getObj_ h3, run_setObj_ h3, hp, goInt, C.world]
      · simp [RV, hp']
    · have hp' : ¬ (p : Int) < tx.size := by omega
      have hk := Keeps.refl c.w (foot c s (.o x))
      obtain ⟨le, hh⟩ := h.setOb hb rfl (b' := ⟨true, .it, tpIt, (tx, (p : Int))⟩) rfl rfl hk
        ⟨⟨1, ⟨k0, h1, (by omega : (0 : Int) ≤ (p : Int)), h3, h4⟩⟩, hlt2, hone⟩
      rw [if_neg hp']
      refine ⟨.tuple #[.bool false], _, ?_, hh, ?_, (fun _ h => by cases h), StepOK.setOb h hb rfl rfl hk⟩
      · simp [Instr.next, run_getObj_ h3, hp, C.world]
      · simp [RV, hp']
theorem isNilP_sound {v : V} {u : Value} (h : RV c v u) (hv : isNilP v = true) : u = .pointer none := by
  unfold isNilP at hv
  split at hv
  · simpa only [RV] using h
  · cases hv
theorem isPtr_sound {v : V} {u : Value} (h : RV c v u) (hv : isPtr v = true) : ∃ ad, u = .pointer (some ad) := by
  cases v with
  | lp x o => simp only [RV] at h; exact ⟨_, h.2⟩
  | rp t l i j => simp only [RV] at h; obtain ⟨_, _, g, o, vs, e, _⟩ := h; exact ⟨_, e⟩
  | op r sz i j => simp only [RV] at h; obtain ⟨_, g, o, n, cap, _, _, _, e⟩ := h; exact ⟨_, e⟩
  | _ => cases hv
theorem equalIn_nilL {d : Nat} {t el : TypeId} (hu : P.underlying t = some (.pointer el)) (q : Option Addr) (w : World) : (Op.equalIn (d + 1) t (.pointer none) (.pointer q)).run P w = .ok q.isNone w := by
  simp [Op.equalIn, run_underlying hu]
theorem equalIn_nilR {d : Nat} {t el : TypeId} (hu : P.underlying t = some (.pointer el)) (p : Addr) (w : World) : (Op.equalIn (d + 1) t (.pointer (some p)) (.pointer none)).run P w = .ok false w := by
  simp [Op.equalIn, run_underlying hu]
theorem equal_nilL {t el : TypeId} (hu : P.underlying t = some (.pointer el)) (q : Option Addr) (w : World) : (Op.equal t (.pointer none) (.pointer q)).run P w = .ok q.isNone w := equalIn_nilL (d := 9999) hu q w
theorem equal_nilR {t el : TypeId} (hu : P.underlying t = some (.pointer el)) (p : Addr) (w : World) : (Op.equal t (.pointer (some p)) (.pointer none)).run P w = .ok false w := equalIn_nilR (d := 9999) hu p w
/-! ### A row that is cut in two -/
theorem run_slice3 {t e : TypeId} (hT : TabOK P T) (ht : P.underlying t = some (.slice e)) (hok : (T e).ok = true) {w : World} {A : Option Addr} {n cap : Nat} {kl kh km : IntKind} {l h : Int} (h0 : 0 ≤ l) (h1 : l ≤ h) (h2 : h ≤ cap) :
    (Instr.sliceAt t (.slice A n cap) (some (.int kl l)) (some (.int kh h)) (some (.int km h))).run P w = .ok (.slice (if h.toNat = l.toNat then A else A.map (·.add (l.toNat * (T e).size))) (h.toNat - l.toNat) (h.toNat - l.toNat)) w := by
  obtain ⟨l, rfl⟩ := Int.eq_ofNat_of_zero_le h0
  obtain ⟨h, rfl⟩ := Int.eq_ofNat_of_zero_le (Int.le_trans h0 h1)
  have a1 : l ≤ h := by omega
  have a2 : h ≤ cap := by omega
  simp [Instr.sliceAt, run_underlying ht, Instr.slice, Instr.sliceBounds, Instr.sliceBound, asIntOf, hT.run_size hok w, a1, a2]
theorem subI_val' (a b : I) : (subI a b).val = a.val - b.val := subI_val a b
def C.split (c : C) (u1 v2 : Value) : C := { c with r := fun x => if x = c.nr then u1 else if x = c.nr + 1 then v2 else c.r x, nr := c.nr + 2 }
theorem split_sound (h : Holds w0 fp c s a) {r : Nat} {b : Row} (hb : s.rows[r]? = some b) (hl : b.live = true) (hgr : s.lk.gr ≤ r) {l hh n : I} {k : Int} {u : Value} (hu : BkOK (c.r r) b.t.size k n.val u) (e1 : k ≤ l.val) (e2 : l.val ≤ k) (e3 : l.val ≤ hh.val) (e4 : hh.val ≤ n.val) :
    ∃ A cap, u = .slice A n.val.toNat cap ∧ n.val.toNat ≤ cap ∧ Holds w0 fp (c.split (.slice (if hh.val.toNat = l.val.toNat then A else A.map (·.add (l.val.toNat * b.t.size))) (hh.val.toNat - l.val.toNat) (hh.val.toNat - l.val.toNat)) (match c.r r with | .slice A2 m _ => .slice (A2.map (·.add ((hh.val.toNat - l.val.toNat) * b.t.size))) (m - (hh.val.toNat - l.val.toNat)) (m - (hh.val.toNat - l.val.toNat)) | v => v))
        { s with
          tmps := s.tmps.map (bkV r (s.rows.length + 1) b.t.size (subI hh l) b.n)
          vars := s.vars.map fun v => ⟨v.live, v.ct.bk r (s.rows.length + 1) b.t.size (subI hh l) b.n⟩
          rows := (s.rows.set r { b with live := false }) ++ [⟨true, true, b.e, b.t, subI hh l, b.l.take (natI (subI hh l))⟩, ⟨true, true, b.e, b.t, subI b.n (subI hh l), b.l.drop (natI (subI hh l))⟩] } a ∧
        StepOK c s (c.split (.slice (if hh.val.toNat = l.val.toNat then A else A.map (·.add (l.val.toNat * b.t.size))) (hh.val.toNat - l.val.toNat) (hh.val.toNat - l.val.toNat)) (match c.r r with | .slice A2 m _ => .slice (A2.map (·.add ((hh.val.toNat - l.val.toNat) * b.t.size))) (m - (hh.val.toNat - l.val.toNat)) (m - (hh.val.toNat - l.val.toNat)) | v => v))
        { s with
          tmps := s.tmps.map (bkV r (s.rows.length + 1) b.t.size (subI hh l) b.n)
          vars := s.vars.map fun v => ⟨v.live, v.ct.bk r (s.rows.length + 1) b.t.size (subI hh l) b.n⟩
          rows := (s.rows.set r { b with live := false }) ++ [⟨true, true, b.e, b.t, subI hh l, b.l.take (natI (subI hh l))⟩, ⟨true, true, b.e, b.t, subI b.n (subI hh l), b.l.drop (natI (subI hh l))⟩] } [.r r] := by
  obtain ⟨k0, k1, A, cap, A2, cp, rfl, n1, n2, hcr, hk0⟩ := hu
  have hk2 := Nonempty.intro (PLift.up hk0)
  clear hk0
  obtain ⟨len, us, hat, hR⟩ := h.rows r b hb hl
  have hrl := (List.getElem?_eq_some_iff.1 hb).1
  have hrn : r < c.nr := by rw [h.nr]; exact hrl
  obtain ⟨p, hp⟩ : ∃ p, p = hh.val.toNat - l.val.toNat := ⟨_, rfl⟩
  have hpn : natI (subI hh l) = p := by rw [natI_val, subI_val]; omega
  have hpv : (subI hh l).val = p := by rw [subI_val]; omega
  -- how long the row is
  have hm : n.val.toNat - k.toNat = b.l.length := by
    rw [hcr] at hat
    rcases hat.at_ with ⟨q, q'⟩ | ⟨_, q', A', c', q, _⟩ | ⟨g, o, c', q, _⟩
    · simp only [Value.slice.injEq] at q; omega
    · simp only [Value.slice.injEq] at q; omega
    · simp only [Value.slice.injEq] at q; omega
  have hpm : p ≤ b.l.length := by omega
  have hsz := b.t.size_pos
  have hlenus : us.length = b.l.length * b.t.size := hat.len
  rw [hcr]
  simp only [← hp, hpn]
  obtain ⟨u1, hu1⟩ : ∃ u1, u1 = Value.slice (if hh.val.toNat = l.val.toNat then A else A.map (·.add (l.val.toNat * b.t.size))) p p := ⟨_, rfl⟩
  obtain ⟨v2, hv2⟩ : ∃ v2, v2 = Value.slice (A2.map (·.add (p * b.t.size))) (n.val.toNat - k.toNat - p) (n.val.toNat - k.toNat - p) := ⟨_, rfl⟩
  have hadd : ∀ (g o j : Nat), (⟨g, o, none⟩ : Addr).add j = ⟨g, o + j, none⟩ := fun g o j => by
    unfold Addr.add; split
    · rename_i q; subst q; rfl
    · rfl
  -- where the cells are
  have hcells : 0 < b.l.length → ∃ g o cp', A2 = some ⟨g, o, none⟩ ∧ b.l.length ≤ cp' ∧ cp' ≤ maxLen ∧ Cells c.w g o us ∧ (k < n.val → A = some ⟨g, o - k.toNat * b.t.size, none⟩ ∧ k.toNat * b.t.size ≤ o) := fun hpos => by
    rw [hcr] at hat
    rcases hat.at_ with ⟨_, q⟩ | ⟨_, q, _⟩ | ⟨g, o, cp', q, q1, q2, q3, _⟩
    · omega
    · omega
    · simp only [Value.slice.injEq] at q
      obtain ⟨rfl, _, rfl⟩ := q
      refine ⟨g, o, _, rfl, q1, q2, q3, fun hkn => ?_⟩
      obtain ⟨⟨hk | ⟨g', o', rfl, hk⟩⟩⟩ := hk2
      · omega
      · simp only [Option.some.injEq, Addr.mk.injEq, and_true] at hk
        obtain ⟨rfl, rfl⟩ := hk
        exact ⟨by rw [Nat.add_sub_cancel], by omega⟩
  have hcN := Nonempty.intro (PLift.up hcells)
  clear hcells
  have hA1 : RowAt c.w true b.e b.t.size u1 p (us.take (p * b.t.size)) := by
    refine ⟨by rw [List.length_take, hlenus, Nat.min_eq_left (Nat.mul_le_mul_right _ hpm)], ?_⟩
    by_cases h0 : p = 0
    · exact .inr (.inl ⟨rfl, h0, A, p, by rw [hu1, if_pos (by omega), h0], by omega⟩)
    · obtain ⟨g, o, cp', q1, q2, q3, ⟨cur, el, q4, q5, q6⟩, q7⟩ := (Classical.choice hcN).down (by omega)
      obtain ⟨q8, q9⟩ := q7 (by omega)
      refine .inr (.inr ⟨g, o, p, ?_, Nat.le_refl _, by omega, ⟨cur, el, q4, ?_, ?_⟩, fun z => by cases z⟩)
      · rw [hu1, if_neg (by omega), q8, Option.map_some, hadd, show l.val.toNat = k.toNat from by omega, Nat.sub_add_cancel q9]
      · rw [List.length_take]; omega
      · rw [List.length_take, ← q6, List.take_take]
        congr 1
        rw [List.length_take, List.length_drop]; simp; omega
  have hA2 : RowAt c.w true b.e b.t.size v2 (b.l.length - p) (us.drop (p * b.t.size)) := by
    refine ⟨by rw [List.length_drop, hlenus, Nat.sub_mul], ?_⟩
    by_cases h0 : b.l.length - p = 0
    · exact .inr (.inl ⟨rfl, h0, _, _, by rw [hv2, hm, h0], by omega⟩)
    · obtain ⟨g, o, cp', q1, q2, q3, ⟨cur, el, q4, q5, q6⟩, _⟩ := (Classical.choice hcN).down (by omega)
      refine .inr (.inr ⟨g, o + p * b.t.size, b.l.length - p, ?_, Nat.le_refl _, by omega, ⟨cur, el, q4, ?_, ?_⟩, fun z => by cases z⟩)
      · rw [hv2, q1, Option.map_some, hadd, hm]
      · have : p * b.t.size ≤ b.l.length * b.t.size := Nat.mul_le_mul_right _ hpm
        rw [List.length_drop]; omega
      · have : p * b.t.size ≤ b.l.length * b.t.size := Nat.mul_le_mul_right _ hpm
        rw [List.length_drop]
        conv => rhs; rw [← q6]
        rw [List.drop_take, List.drop_drop]
  have hR1 : RpL (Rp c b.t) (b.l.take p) (us.take (p * b.t.size)) := RpL.take (fun _ _ z => z.length) p hR
  have hR2 : RpL (Rp c b.t) (b.l.drop p) (us.drop (p * b.t.size)) := RpL.drop (fun _ _ z => z.length) p hR
  generalize hc' : c.split u1 v2 = c'
  refine ⟨A, cap, rfl, n1, ?_⟩
  rw [← hu1, ← hv2, hc']
  have cw : c'.w = c.w := by rw [← hc']; rfl
  have cF : c'.F = c.F := by rw [← hc']; rfl
  have cnr : c'.nr = c.nr + 2 := by rw [← hc']; rfl
  have cr0 : ∀ x, x < c.nr → c'.r x = c.r x := fun x hx => by rw [← hc']; simp only [C.split]; rw [if_neg (by omega), if_neg (by omega)]
  have cr1 : c'.r c.nr = u1 := by rw [← hc']; simp [C.split]
  have cr2 : c'.r (c.nr + 1) = v2 := by rw [← hc']; simp [C.split]
  have le : c.Le c' := { F := fun _ _ z => by rw [cF]; exact z, spot := fun _ _ _ => by rw [cw], g := fun _ _ => by rw [← hc']; rfl, nv := by rw [← hc']; exact Nat.le_refl _, r := cr0, nr := by rw [cnr]; omega, ob := fun _ _ => by rw [← hc']; rfl, nb := by rw [← hc']; exact Nat.le_refl _ }
  have hlenn : b.n.val = b.l.length := len
  -- values
  have key : ∀ (v : V) (x : Value), RV c v x → RV c' (bkV r (s.rows.length + 1) b.t.size (subI hh l) b.n v) x := by
    intro v x hx
    have hx' := RV.le le _ _ hx
    cases v with
    | own r' =>
      simp only [bkV]
      split
      · rename_i e
        obtain rfl := eq_of_beq e
        simp only [RV] at hx ⊢
        refine ⟨by rw [cnr, h.nr]; omega, by omega, by omega, ?_⟩
        rw [show s.rows.length + 1 = c.nr + 1 from by rw [h.nr], cr2, hx.2.1, hcr]
        have hcp : b.l.length ≤ cp ∧ cp ≤ maxLen := by
          rw [hcr] at hat
          rcases hat.at_ with ⟨q, q'⟩ | ⟨_, q', A', c', q, q''⟩ | ⟨g, o, c', q, q1, q2, _⟩
          · simp only [Value.slice.injEq] at q; omega
          · simp only [Value.slice.injEq] at q; omega
          · simp only [Value.slice.injEq] at q; omega
        refine ⟨A2, cp, A2.map (·.add (p * b.t.size)), n.val.toNat - k.toNat - p, by rw [hm, hlenn]; rfl, by omega, hcp.2, by rw [hv2, hpv, hlenn, hm]; simp, ?_⟩
        by_cases h0 : p = b.l.length
        · left; omega
        · right
          obtain ⟨g, o, cp', q1, _⟩ := (Classical.choice hcN).down (by omega)
          refine ⟨g, o, q1, ?_⟩
          rw [q1, Option.map_some, hadd, hpv]; simp
      · exact hx'
    | bk r' sz' k' n' =>
      simp only [bkV]
      split
      · rename_i e
        simp only [Bool.and_eq_true, beq_iff_eq] at e
        obtain ⟨rfl, rfl⟩ := e
        simp only [RV] at hx ⊢
        obtain ⟨_, z0, z1, A', cap', A3, cp3, rfl, z2, z3, z4, z50⟩ := hx
        have z51 := Nonempty.intro (PLift.up z50)
        clear z50
        rw [hcr] at z4
        simp only [Value.slice.injEq] at z4
        obtain ⟨rfl, z4, _⟩ := z4
        have haddv : (addI k' (subI hh l)).val = k'.val + p := by rw [addI_val, hpv]
        refine ⟨by rw [cnr, h.nr]; omega, by rw [haddv]; omega, by rw [haddv]; omega, A', cap', A2.map (·.add (p * b.t.size)), n.val.toNat - k.toNat - p, rfl, z2, z3, ?_, ?_⟩
        · rw [show s.rows.length + 1 = c.nr + 1 from by rw [h.nr], cr2, hv2, haddv]
          congr 1
          omega
        · rw [haddv]
          obtain ⟨⟨z5 | ⟨g, o, z5, z6⟩⟩⟩ := z51
          · left; omega
          · right
            refine ⟨g, o, z5, ?_⟩
            rw [z6, Option.map_some, hadd, show (k'.val + (p : Int)).toNat = k'.val.toNat + p from by omega, Nat.add_mul, Nat.add_assoc]
      · exact hx'
    | _ => exact hx'
  have keys : ∀ (vs : List V) (xs : List Value), RVs c vs xs → RVs c' (vs.map (bkV r (s.rows.length + 1) b.t.size (subI hh l) b.n)) xs := by
    intro vs
    induction vs with
    | nil => intro xs hx; exact hx
    | cons v vs ih =>
      intro xs hx
      simp only [RVs] at hx
      obtain ⟨x, xs', rfl, h1, h2⟩ := hx
      exact .cons (key v x h1) (ih _ h2)
  have bsize : ∀ ct : Ctn, (ct.bk r (s.rows.length + 1) b.t.size (subI hh l) b.n).size = ct.size := fun ct => by cases ct <;> simp [Ctn.bk, Ctn.size]
  -- rows
  have rowGet : ∀ x b', ((s.rows.set r { b with live := false }) ++ [⟨true, true, b.e, b.t, subI hh l, b.l.take p⟩, ⟨true, true, b.e, b.t, subI b.n (subI hh l), b.l.drop p⟩])[x]? = some b' → b'.live = true → (x ≠ r ∧ x < s.rows.length ∧ s.rows[x]? = some b') ∨ (x = c.nr ∧ b' = ⟨true, true, b.e, b.t, subI hh l, b.l.take p⟩) ∨ (x = c.nr + 1 ∧ b' = ⟨true, true, b.e, b.t, subI b.n (subI hh l), b.l.drop p⟩) := by
    intro x b' hx hlv
    rw [List.getElem?_append, List.length_set] at hx
    split at hx
    · rename_i hlt
      rw [List.getElem?_set] at hx
      split at hx
      · rename_i e
        obtain rfl := Option.some.inj hx
        cases hlv
      · rename_i e
        exact .inl ⟨fun q => e q.symm, hlt, hx⟩
    · rename_i hge
      rw [h.nr]
      obtain ⟨j, hj⟩ : ∃ j, x - s.rows.length = j := ⟨_, rfl⟩
      rw [hj] at hx
      match j, hx with
      | 0, hx => simp at hx; exact .inr (.inl ⟨by omega, hx.symm⟩)
      | 1, hx => simp at hx; exact .inr (.inr ⟨by omega, hx.symm⟩)
      | j + 2, hx => simp at hx
  have hfr : ∀ kk o, rowF u1 true b.t.size kk o ∨ rowF v2 true b.t.size kk o → foot c s (.r r) kk o := by
    intro kk o hq
    refine ⟨b, hb, hl, ?_⟩
    rw [hcr]
    rcases hq with hq | hq
    · rw [hu1] at hq
      by_cases h0 : p = 0
      · rw [h0] at hq
        cases hA : (if hh.val.toNat = l.val.toNat then A else A.map (·.add (l.val.toNat * b.t.size))) with
        | none => rw [hA] at hq; exact hq.elim
        | some ad =>
          rw [hA] at hq
          simp only [rowF] at hq
          obtain ⟨_, hq⟩ := hq
          rcases hq with hq | hq
          · cases hq
          · omega
      · obtain ⟨g, o', cp', q1, q2, q3, _, q7⟩ := (Classical.choice hcN).down (by omega)
        obtain ⟨q8, q9⟩ := q7 (by omega)
        rw [if_neg (by omega), q8, Option.map_some, hadd, show l.val.toNat = k.toNat from by omega, Nat.sub_add_cancel q9] at hq
        rw [q1]
        simp only [rowF] at hq ⊢
        refine ⟨hq.1, .inr ?_⟩
        rcases hq.2 with z | z
        · cases z
        · have : p * b.t.size ≤ b.l.length * b.t.size := Nat.mul_le_mul_right _ hpm
          rw [hm]
          exact ⟨z.1, by omega⟩
    · rw [hv2] at hq
      cases hA : A2 with
      | none => rw [hA] at hq; exact hq.elim
      | some ad =>
        rw [hA] at hq
        simp only [Option.map_some, rowF] at hq ⊢
        by_cases h0 : b.l.length - p = 0
        · rcases hq.2 with z | z
          · cases z
          · rw [hm, h0] at z; omega
        · obtain ⟨g, o', cp', q1, _⟩ := (Classical.choice hcN).down (by omega)
          rw [q1] at hA
          obtain rfl := Option.some.inj hA
          rw [hadd] at hq
          simp only at hq ⊢
          refine ⟨hq.1, .inr ?_⟩
          rcases hq.2 with z | z
          · cases z
          · rw [hm] at z ⊢
            have : p * b.t.size ≤ b.l.length * b.t.size := Nat.mul_le_mul_right _ hpm
            rw [Nat.sub_mul] at z
            exact ⟨by omega, by omega⟩
  have hdis : ∀ kk o, rowF u1 true b.t.size kk o → rowF v2 true b.t.size kk o → False := by
    intro kk o h1 h2
    by_cases h0 : p = 0
    · rw [hu1, h0] at h1
      cases hA : (if hh.val.toNat = l.val.toNat then A else A.map (·.add (l.val.toNat * b.t.size))) with
      | none => rw [hA] at h1; exact h1.elim
      | some ad =>
        rw [hA] at h1
        simp only [rowF] at h1
        rcases h1.2 with z | z
        · cases z
        · omega
    · obtain ⟨g, o', cp', q1, q2, q3, _, q7⟩ := (Classical.choice hcN).down (by omega)
      obtain ⟨q8, q9⟩ := q7 (by omega)
      rw [hu1, if_neg (by omega), q8, Option.map_some, hadd, show l.val.toNat = k.toNat from by omega, Nat.sub_add_cancel q9] at h1
      rw [hv2, q1, Option.map_some, hadd] at h2
      simp only [rowF] at h1 h2
      rcases h1.2 with z | z
      · cases z
      · rcases h2.2 with z' | z'
        · cases z'
        · omega
  have hff : ∀ q kk o, foot c' { s with tmps := s.tmps.map (bkV r (s.rows.length + 1) b.t.size (subI hh l) b.n), vars := s.vars.map fun v => ⟨v.live, v.ct.bk r (s.rows.length + 1) b.t.size (subI hh l) b.n⟩, rows := (s.rows.set r { b with live := false }) ++ [⟨true, true, b.e, b.t, subI hh l, b.l.take p⟩, ⟨true, true, b.e, b.t, subI b.n (subI hh l), b.l.drop p⟩] } q kk o →
      (q ≠ .r r ∧ foot c s q kk o) ∨ (q = .r c.nr ∧ rowF u1 true b.t.size kk o) ∨ (q = .r (c.nr + 1) ∧ rowF v2 true b.t.size kk o) := by
    intro q kk o hq
    cases q with
    | v y =>
      obtain ⟨v, hv, hlv, hf⟩ := hq
      simp only [List.getElem?_map, Option.map_eq_some_iff] at hv
      obtain ⟨v1, hv1, rfl⟩ := hv
      refine .inl ⟨(fun e => by cases e), v1, hv1, hlv, ?_⟩
      simp only [bsize] at hf
      unfold varF at hf ⊢
      rwa [show c'.g y = c.g y from by rw [← hc']; rfl] at hf
    | r y =>
      obtain ⟨v, hv, hlv, hf⟩ := hq
      rcases rowGet y v hv hlv with ⟨hne, hlt, hv1⟩ | ⟨rfl, rfl⟩ | ⟨rfl, rfl⟩
      · rw [cr0 y (by rw [h.nr]; exact hlt)] at hf
        exact .inl ⟨fun e => by injection e with e; exact hne e, v, hv1, hlv, hf⟩
      · rw [cr1] at hf
        exact .inr (.inl ⟨rfl, hf⟩)
      · rw [cr2] at hf
        exact .inr (.inr ⟨rfl, hf⟩)
    | o y =>
      obtain ⟨v, hv, hlv, hf⟩ := hq
      exact .inl ⟨(fun e => by cases e), v, hv, hlv, by rwa [show c'.fo = c.fo from by rw [← hc']; rfl] at hf⟩
  refine ⟨{ gl := fun q hq => by rw [cF, cw]; exact h.gl q hq, keeps := by rw [cw]; exact h.keeps, eF := by rw [cF]; exact h.eF, eF2 := by rw [cF]; exact h.eF2, lk := h.lk, fpk := h.fpk, tmps := keys _ _ h.tmps, defers := h.defers, nv := by rw [show c'.nv = c.nv from by rw [← hc']; rfl, h.nv]; simp, nr := by rw [cnr, h.nr]; simp, nb := by rw [show c'.nb = c.nb from by rw [← hc']; rfl]; exact h.nb, vars := ?_, rows := ?_, objs := ?_, disj := ?_, mine := ?_, free := ?_, flt := by rw [cF, cw]; exact h.flt, ag := ?_, ar := ?_, ao := ?_ }, ⟨fun _ _ z => by rw [cF]; exact z, fun _ _ _ => by rw [cw], ?_⟩⟩
  · intro x v hv hlv
    simp only [List.getElem?_map, Option.map_eq_some_iff] at hv
    obtain ⟨v1, hv1, rfl⟩ := hv
    refine (h.vars x v1 hv1 hlv).keep (fun _ _ _ => by rw [cw]) (by rw [← hc']; rfl) (bsize _) (fun xs hxs => ?_)
    cases hct : v1.ct with
    | pk t e => rw [hct] at hxs; exact Rp.le le.toLe0 hxs
    | ls vs => rw [hct] at hxs; exact keys _ _ hxs
  · intro x v hv hlv
    rcases rowGet x v hv hlv with ⟨hne, hlt, hv1⟩ | ⟨rfl, rfl⟩ | ⟨rfl, rfl⟩
    · exact (h.rows x v hv1 hlv).keep (fun _ _ _ => by rw [cw]) (cr0 x (by rw [h.nr]; exact hlt)) le.toLe0
    · refine ⟨by simp only [List.length_take]; rw [hpv]; omega, _, ?_, hR1.le le.toLe0⟩
      simp only [List.length_take]
      rw [cr1, cw, Nat.min_eq_left hpm]; exact hA1
    · refine ⟨by simp only [List.length_drop]; rw [subI_val, hpv, hlenn]; omega, _, ?_, hR2.le le.toLe0⟩
      simp only [List.length_drop]
      rw [cr2, cw]; exact hA2
  · intro x v hv hlv
    rw [cw, cF, show c'.ob = c.ob from by rw [← hc']; rfl, show c'.fo = c.fo from by rw [← hc']; rfl]
    exact h.objs x v hv hlv
  · intro q q' kk o h1 h2
    rcases hff q kk o h1 with ⟨z1, f1⟩ | ⟨z1, f1⟩ | ⟨z1, f1⟩ <;> rcases hff q' kk o h2 with ⟨z2, f2⟩ | ⟨z2, f2⟩ | ⟨z2, f2⟩
    · exact h.disj _ _ kk o f1 f2
    · exact absurd (h.disj _ _ kk o f1 (hfr kk o (.inl f2))) z1
    · exact absurd (h.disj _ _ kk o f1 (hfr kk o (.inr f2))) z1
    · exact absurd (h.disj _ _ kk o f2 (hfr kk o (.inl f1))) z2
    · rw [z1, z2]
    · exact (hdis kk o f1 f2).elim
    · exact absurd (h.disj _ _ kk o f2 (hfr kk o (.inr f1))) z2
    · exact (hdis kk o f2 f1).elim
    · rw [z1, z2]
  · intro q kk o h1
    rcases hff q kk o h1 with ⟨_, f1⟩ | hz
    · rw [cF]; exact h.mine q kk o f1
    · have f1 : foot c s (.r r) kk o := hfr kk o (hz.imp (·.2) (·.2))
      obtain ⟨m1, m2⟩ := h.mine _ kk o f1
      rw [cF]
      refine ⟨.inl ?_, m2⟩
      rcases m1 with m1 | m1
      · exact m1
      · exact absurd m1 (h.fpk.gr _ kk o (by rw [← h.lk]; exact hgr))
  · intro q kk o h1 hq
    rcases hff q kk o h1 with ⟨_, f1⟩ | hz
    · exact h.free q kk o f1 hq
    · have f1 : foot c s (.r r) kk o := hfr kk o (hz.imp (·.2) (·.2))
      rcases (h.mine _ kk o f1).1 with m1 | m1
      · exact .inl m1
      · exact absurd m1 (h.fpk.gr _ kk o (by rw [← h.lk]; exact hgr))
  · intro x ad hx
    rw [show c'.nv = c.nv from by rw [← hc']; rfl, show c'.g = c.g from by rw [← hc']; rfl]
    exact h.ag x ad hx
  · intro x v hx
    obtain ⟨q1, b1, hb1, hl1, hf1⟩ := h.ar x v hx
    have hlt := (List.getElem?_eq_some_iff.1 hb1).1
    have hne : r ≠ x := fun e => by
      have := h.fpk.rl x v hx
      rw [← h.lk] at this
      omega
    refine ⟨(cr0 x (by rw [h.nr]; exact hlt)).trans q1, b1, ?_, hl1, hf1⟩
    simp only
    rw [List.getElem?_append_left (by rw [List.length_set]; exact hlt), List.getElem?_set_ne hne]
    exact hb1
  · intro x v hx
    rw [show c'.ob = c.ob from by rw [← hc']; rfl]
    exact h.ao x v hx
  · intro q kk o hnq hf
    have hqr : q ≠ .r r := fun e => hnq (by rw [e]; simp)
    cases q with
    | v y =>
      obtain ⟨v, hv, hlv, hf⟩ := hf
      refine ⟨⟨v.live, v.ct.bk r (s.rows.length + 1) b.t.size (subI hh l) b.n⟩, by simp only [List.getElem?_map, hv, Option.map_some], hlv, ?_⟩
      simp only [bsize]
      unfold varF at hf ⊢
      rw [show c'.g y = c.g y from by rw [← hc']; rfl]; exact hf
    | r y =>
      obtain ⟨v, hv, hlv, hf⟩ := hf
      have hlt := (List.getElem?_eq_some_iff.1 hv).1
      have hne : r ≠ y := fun e => hqr (by rw [e])
      refine ⟨v, by simp only; rw [List.getElem?_append_left (by rw [List.length_set]; exact hlt), List.getElem?_set_ne hne]; exact hv, hlv, ?_⟩
      rw [cr0 y (by rw [h.nr]; exact hlt)]; exact hf
    | o y =>
      obtain ⟨v, hv, hlv, hf⟩ := hf
      exact ⟨v, hv, hlv, by rw [show c'.fo = c.fo from by rw [← hc']; rfl]; exact hf⟩
include hT in
theorem opY_sound (h : Holds w0 fp c s a) {o : Oper} {v : V} {s' : S} (hop : opY T s o.op = .ok v s') (hn : needsOK s'.needs) : Did P w0 fp c s s' a o v := by
  have hev : ∀ x : Operand, RV c (ev s x) (a.eval x) := fun x => RV.ev h.tmps x
  cases ho : o.op with
  | makeSlice t l cp =>
    rw [ho] at hop
    simp only [opY] at hop
    split at hop
    case h_2 => cases hop
    rename_i k n k' m e hl hc hd
    split at hop
    case h_2 => cases hop
    rename_i q hq
    split at hop
    case isFalse => cases hop
    rename_i hcond
    simp only [Bool.and_eq_true, decide_eq_true_eq, beq_iff_eq] at hcond
    obtain ⟨⟨⟨hok, hb⟩, hqs⟩, hsame⟩ := hcond
    obtain ⟨rfl, rfl⟩ := R.ok.inj hop
    have hx := hev l
    have hy := hev cp
    rw [hl] at hx
    rw [hc] at hy
    simp only [RV] at hx hy
    have hnm : n.val = m.val := sameI_spec hsame (fun i e1 e2 => by
      rw [e1] at hl; rw [e2] at hc; rw [hl] at hc; injection hc)
    refine Did.of (f := Instr.makeSlice t (a.eval l) (a.eval cp)) (by simp only [execOp, ho]) (q := .make) (by rw [ho]; exact ⟨(fun h => by cases h), .inl rfl⟩) ?_
    rw [hx, hy]
    exact makeSlice_sound hT h hd hq hok hb hqs hnm hn.1
  | range t x =>
    rw [ho] at hop
    simp only [opY] at hop
    split at hop
    case h_2 => cases hop
    rename_i z hd hxe
    obtain ⟨rfl, rfl⟩ := R.ok.inj hop
    have hx := hev x
    rw [hxe] at hx
    simp only [RV] at hx
    have hdt := hT.desc t
    rw [hd] at hdt
    refine Did.of (f := Instr.range t (a.eval x)) (by simp only [execOp, ho]) (q := .other []) (by rw [ho]; exact ⟨(fun h => by cases h), .inl rfl⟩) ?_
    rw [hx]
    exact range_sound h hdt z
  | next x str =>
    rw [ho] at hop
    cases str with
    | false => cases hop
    | true =>
      simp only [opY] at hop
      split at hop
      case h_2 => cases hop
      rename_i y hxe
      have hx := hev x
      rw [hxe] at hx
      refine Did.of (f := Instr.next (a.eval x) true o.type) (by simp only [execOp, ho]) (q := .other [.o y]) (by rw [ho]; exact ⟨(fun h => by cases h), .inr (by simp only [touchO, hxe, Kind.tch])⟩) ?_
      exact next_sound h hx hop
  | extract x i =>
    rw [ho] at hop
    simp only [opY] at hop
    have hx := hev x
    split at hop
    case h_4 => cases hop
    · rename_i b p r hxe
      obtain ⟨rfl, rfl⟩ := R.ok.inj hop
      rw [hxe] at hx
      simp only [RV] at hx
      refine Did.still h (u := .bool b) (fun w' _ => ?_) (by simp [RV, Bval_s])
      cases b <;> simp [execOp, ho, hx, Instr.extract]
    · rename_i b p r hxe
      obtain ⟨rfl, rfl⟩ := R.ok.inj hop
      rw [hxe] at hx
      simp only [RV] at hx
      have hb : b = true := hn.1
      subst hb
      refine Did.still (h.needs _) (u := .int .i64 p) (fun w' _ => ?_) (by simp [RV, Ival_s])
      simp [execOp, ho, hx, Instr.extract]
    · rename_i b p r hxe
      obtain ⟨rfl, rfl⟩ := R.ok.inj hop
      rw [hxe] at hx
      simp only [RV] at hx
      have hb : b = true := hn.1
      subst hb
      refine Did.still (h.needs _) (u := .int .i32 r) (fun w' _ => ?_) (by simp [RV, Ival_s])
      simp [execOp, ho, hx, Instr.extract]
  | makeFunc fn first caps =>
    rw [ho] at hop
    cases fn with
    | func f =>
      simp only [opY] at hop
      split at hop
      case isFalse => cases hop
      rename_i hf
      obtain ⟨rfl, rfl⟩ := R.ok.inj hop
      have hf' : first = #[] := by apply Array.ext'; simpa using hf
      subst hf'
      refine Did.still h (u := .func (.func f) #[] (caps.map a.eval)) (fun w' _ => by simp [execOp, ho, Instr.makeFunc]) ?_
      simp only [RV]
      exact ⟨_, rfl, by simpa using evs_RVs h.tmps caps.toList⟩
    | _ => cases hop
  | nilCheck x =>
    rw [ho] at hop
    simp only [opY] at hop
    split at hop
    case h_2 => cases hop
    rename_i e he
    obtain ⟨rfl, rfl⟩ := R.ok.inj hop
    have hx := hev x
    rw [he] at hx
    have hle := hn.1
    simp only [Need.ok] at hle
    have hp : a.eval x = .pointer (some ⟨e.1.toNat, e.2.toNat, none⟩) := by
      simp only [RV] at hx
      rw [hx, ptrU, if_neg (by omega)]
    exact Did.still (h.needs _) (u := a.eval x) (fun w' _ => by simp [execOp, ho, hp]) hx
  | binOp b t x y yt =>
    rw [ho] at hop
    simp only [opY] at hop
    have hx := hev x
    have hy := hev y
    split at hop
    case h_2 =>
      split at hop
      case h_2 => cases hop
      rename_i el hd
      have hdt := hT.desc t
      rw [hd] at hdt
      have hu : P.underlying t = some (.pointer el) := hdt
      have key : ∀ b, nilEq (ev s x) (ev s y) = some b → ∃ p q, a.eval x = .pointer p ∧ a.eval y = .pointer q ∧ ∀ w' : World, (Op.equal t (.pointer p) (.pointer q)).run P w' = .ok b.val w' := fun b hb => by
        unfold nilEq at hb
        split at hb
        · rename_i hc
          simp only [Bool.and_eq_true] at hc
          obtain rfl := Option.some.inj hb
          have e1 := isNilP_sound hx hc.1
          have e2 := isNilP_sound hy hc.2
          exact ⟨none, none, e1, e2, fun w' => equal_nilL hu none w'⟩
        · split at hb
          · rename_i hc
            obtain rfl := Option.some.inj hb
            simp only [Bool.or_eq_true, Bool.and_eq_true] at hc
            rcases hc with ⟨c1, c2⟩ | ⟨c1, c2⟩
            · obtain ⟨ad, e2⟩ := isPtr_sound hy c2
              exact ⟨none, some ad, isNilP_sound hx c1, e2, fun w' => equal_nilL hu (some ad) w'⟩
            · obtain ⟨ad, e1⟩ := isPtr_sound hx c1
              exact ⟨some ad, none, e1, isNilP_sound hy c2, fun w' => equal_nilR hu ad w'⟩
          · have ptP : ∀ e : Int × Int, ∃ p, ptrU e = .pointer p ∧ ∀ w' : World, (Op.equal t (.pointer p) (.pointer none)).run P w' = .ok (decide (e.1 < 0)) w' ∧ (Op.equal t (.pointer none) (.pointer p)).run P w' = .ok (decide (e.1 < 0)) w' := fun e => by
              unfold ptrU
              split
              · rename_i q
                exact ⟨none, rfl, fun w' => ⟨by rw [equal_nilL hu none w']; simp [q], by rw [equal_nilL hu none w']; simp [q]⟩⟩
              · rename_i q
                exact ⟨_, rfl, fun w' => ⟨by rw [equal_nilR hu _ w']; simp [q], by rw [equal_nilL hu _ w']; simp [q]⟩⟩
            split at hb
            · rename_i e hxe
              split at hb
              · rename_i hny
                obtain rfl := Option.some.inj hb
                rw [hxe] at hx
                simp only [RV] at hx
                obtain ⟨p, e1, e2⟩ := ptP e
                exact ⟨p, none, by rw [hx, e1], isNilP_sound hy hny, fun w' => (e2 w').1⟩
              · cases hb
            · split at hb
              · rename_i e hye
                split at hb
                · rename_i hnx
                  obtain rfl := Option.some.inj hb
                  rw [hye] at hy
                  simp only [RV] at hy
                  obtain ⟨p, e1, e2⟩ := ptP e
                  exact ⟨none, p, isNilP_sound hx hnx, by rw [hy, e1], fun w' => (e2 w').2⟩
                · cases hb
              · cases hb
      split at hop
      case h_3 => cases hop
      · rename_i r hb
        obtain ⟨rfl, rfl⟩ := R.ok.inj hop
        obtain ⟨p, q, e1, e2, he⟩ := key _ hb
        exact Did.eql (r := r.val) h ho e1 e2 (fun w' o => by cases o <;> rfl) (.inl rfl) (fun w' => by simp [binOp, he]) (fun w' => by simp [binOp, he]) (by simp [RV])
      · rename_i r hb
        obtain ⟨rfl, rfl⟩ := R.ok.inj hop
        obtain ⟨p, q, e1, e2, he⟩ := key _ hb
        exact Did.eql (r := r.val) h ho e1 e2 (fun w' o => by cases o <;> rfl) (.inr rfl) (fun w' => by simp [binOp, he]) (fun w' => by simp [binOp, he]) (by simp [RV, bNot_val])
    rename_i p q hxe hye
    rw [hxe] at hx
    rw [hye] at hy
    simp only [RV] at hx hy
    split at hop
    case h_4 => cases hop
    · obtain ⟨rfl, rfl⟩ := R.ok.inj hop
      have hle := hn.1
      simp only [Need.ok] at hle
      refine Did.still (h.needs _) (u := .string (p ++ q)) (fun w' _ => ?_) (by simp only [RV])
      have : ¬ ((p.size : Int) + q.size > IntKind.i64.max) := by
        have : IntKind.i64.max = 9223372036854775807 := by decide
        rw [this]; omega
      simp [execOp, ho, hx, hy, eqGuard, binOp, Op.stringOp, this]
      omega
    · obtain ⟨rfl, rfl⟩ := R.ok.inj hop
      exact Did.still h (u := .bool (Op.bytesLess p.toList q.toList)) (fun w' _ => by simp [execOp, ho, hx, hy, eqGuard, binOp, Op.stringOp]) (by simp [RV, Bval_s])
    · obtain ⟨rfl, rfl⟩ := R.ok.inj hop
      exact Did.still h (u := .bool (!(Op.bytesLess p.toList q.toList))) (fun w' _ => by simp [execOp, ho, hx, hy, eqGuard, binOp, Op.stringOp]) (by simp [RV, Bval_s])
  | index t x i =>
    rw [ho] at hop
    simp only [opY] at hop
    split at hop
    case h_2 => cases hop
    rename_i p k n hd hxe hie
    obtain ⟨rfl, rfl⟩ := R.ok.inj hop
    have hx := hev x
    have hi := hev i
    rw [hxe] at hx
    rw [hie] at hi
    simp only [RV] at hx hi
    have hdt := hT.desc t
    rw [hd] at hdt
    have hu : P.underlying t = some .string := hdt
    have hle := hn.1
    simp only [Need.ok] at hle
    obtain ⟨m, hm⟩ := Int.eq_ofNat_of_zero_le hle.1
    rw [hm] at hle hi
    have hlt : m < p.size := by omega
    refine Did.still (h.needs _) (u := .int .u8 (strAt p n.val)) (fun w' _ => ?_) (by simp [RV, Ival_s])
    have hget : p[m]? = some (p.toList.getD m 0) := by
      have h2 : m < p.data.size := hlt
      rw [getElem?_pos p m hlt, bytes_toList, List.getD_eq_getElem?_getD, List.getElem?_eq_getElem (by simpa using h2), Option.getD_some]
      rfl
    simp [execOp, ho, hx, hi, Instr.index, asIntOf, run_underlying hu, hget, strAt, hm]
  | slice t x lo hi mx =>
    rw [ho] at hop
    cases mx with
    | some mo =>
      cases lo with
      | none => simp [opY] at hop
      | some lo =>
        cases hi with
        | none => simp [opY] at hop
        | some hi =>
          simp only [opY] at hop
          -- the row that is cut, and from where
          have main : ∀ {r : Nat} {b : Row} {e : TypeId} {k n l hh m : I} {kl kh km : IntKind}, (T t).d = .slice e → (T e).ok = true → (T e).size = b.t.size → s.rows[r]? = some b → b.live = true → (ev s x = .own r ∨ ev s x = .bk r b.t.size k n) → BkOK (c.r r) b.t.size k.val n.val (a.eval x) → ev s lo = .i kl l → ev s hi = .i kh hh → ev s mo = .i km m → opSplit r b.t.size k n s l hh m = .ok v s' → Did P w0 fp c s s' a o v := by
            intro r b e k n l hh m kl kh km hd hok hsz hb hl hxe hu hlo hhi hmo hop
            unfold opSplit at hop
            split at hop
            case isTrue => cases hop
            rename_i hlk
            simp only [Bool.or_eq_true, decide_eq_true_eq, not_or, Nat.not_lt] at hlk
            rw [hb] at hop
            simp only at hop
            split at hop
            case isFalse => cases hop
            obtain ⟨rfl, rfl⟩ := R.ok.inj hop
            obtain ⟨m1, m2, m3, m4, m5, m6, _⟩ := hn
            simp only [Need.ok] at m1 m2 m3 m4 m5 m6
            have hdt := hT.desc t
            rw [hd] at hdt
            have ht : P.underlying t = some (.slice e) := hdt
            have k0 := hu.1
            obtain ⟨A, cap, eu, ecap, hh', hstep⟩ := split_sound h hb hl hlk.2 hu m1 m2 m3 m4
            have v1 := hev lo
            have v2 := hev hi
            have v3 := hev mo
            rw [hlo] at v1
            rw [hhi] at v2
            rw [hmo] at v3
            simp only [RV] at v1 v2 v3
            have hmv : m.val = hh.val := by omega
            have hrun := fun w => run_slice3 hT ht hok (w := w) (A := A) (n := n.val.toNat) (cap := cap) (kl := kl) (kh := kh) (km := km) (l := l.val) (h := hh.val) (by omega) m3 (by omega)
            refine ⟨.slice (if hh.val.toNat = l.val.toNat then A else A.map (·.add (l.val.toNat * b.t.size))) (hh.val.toNat - l.val.toNat) (hh.val.toNat - l.val.toNat), _, ?_, hh'.needs _, ?_, fun z => (by rw [ho] at z; cases z), ?_⟩
            · rw [show (execOp a.eval o) = (do pure (.value (← Instr.sliceAt t (a.eval x) (some (a.eval lo)) (some (a.eval hi)) (some (a.eval mo)))) : Sem Next) from by simp [execOp, ho]]
              rw [eu, v1, v2, v3, hmv]
              simp only [Sem.run_bind]
              rw [hrun c.w]
              rw [hsz]
              rfl
            · simp only [RV, C.split]
              exact ⟨by rw [h.nr]; omega, by rw [if_pos h.nr.symm], by rw [if_pos h.nr.symm]; rfl⟩
            · have : touchO s o.op = [.r r] := by
                rw [ho]
                simp only [touchO]
                rcases hxe with e | e <;> rw [e] <;> rfl
              rw [this]
              exact ⟨hstep.F, hstep.agree, fun q kk o hq hf => hstep.foot q kk o hq hf⟩
          split at hop
          · rename_i e r kl l kh hh km m hd hxe hlo hhi hmo
            split at hop
            case h_2 => cases hop
            rename_i b hb
            split at hop
            case isFalse => cases hop
            rename_i hc
            simp only [Bool.and_eq_true, beq_iff_eq] at hc
            by_cases hl : b.live = true
            · have hx := hev x
              rw [hxe] at hx
              simp only [RV] at hx
              have hrow := h.rows r b hb hl
              obtain ⟨us, hat, _⟩ := hrow.at_
              have hu : BkOK (c.r r) b.t.size ((I.l 0).val) b.n.val (a.eval x) := by
                rw [hx.2.1]
                refine ⟨Int.le_refl _, by rw [hrow.len]; exact Int.natCast_nonneg _, ?_⟩
                rw [hrow.len]
                rcases hat.at_ with ⟨q, q'⟩ | ⟨_, q', A', c', q, q''⟩ | ⟨g, o', c', q, q1, q2, _⟩
                · exact ⟨none, 0, none, 0, by rw [q, q']; rfl, by rw [q']; simp, by simp, by rw [q, q']; rfl, .inl (by rw [q']; rfl)⟩
                · exact ⟨A', c', A', c', by rw [q, q']; rfl, by rw [q']; simp, q'', by rw [q, q']; rfl, .inl (by rw [q']; rfl)⟩
                · exact ⟨some ⟨g, o', none⟩, c', some ⟨g, o', none⟩, c', by rw [q]; rfl, by simpa using q1, q2, by rw [q]; simp [I.val], .inr ⟨g, o', rfl, by simp [I.val]⟩⟩
              exact main hd hc.1 hc.2 hb hl (.inl hxe) hu hlo hhi hmo hop
            · exfalso
              unfold opSplit at hop
              split at hop
              · cases hop
              · rw [hb] at hop
                simp only [hl, Bool.false_and, Bool.false_eq_true, if_false] at hop
                cases hop
          · rename_i e r sz k n kl l kh hh km m hd hxe hlo hhi hmo
            split at hop
            case isFalse => cases hop
            rename_i hc
            simp only [Bool.and_eq_true, beq_iff_eq] at hc
            have hop' := hop
            unfold opSplit at hop'
            split at hop'
            · cases hop'
            · split at hop'
              case h_2 => cases hop'
              rename_i b hb
              split at hop'
              case isFalse => cases hop'
              rename_i hbc
              simp only [Bool.and_eq_true, beq_iff_eq] at hbc
              obtain ⟨hl, rfl⟩ := hbc
              have hx := hev x
              rw [hxe] at hx
              simp only [RV] at hx
              exact main hd hc.1 hc.2 hb hl (.inr hxe) hx.2 hlo hhi hmo hop
          · cases hop
    | none =>
      simp only [opY] at hop
      split at hop
      case h_2 => cases hop
      rename_i p hd hxe
      split at hop
      case h_2 => cases hop
      rename_i l hh hl hhi
      obtain ⟨rfl, rfl⟩ := R.ok.inj hop
      have hdt := hT.desc t
      rw [hd] at hdt
      have hu : P.underlying t = some .string := hdt
      obtain ⟨n1, n2, n3, _⟩ := hn
      simp only [Need.ok] at n1 n2 n3
      have hx := hev x
      rw [hxe] at hx
      simp only [RV] at hx
      have ho' : execOp a.eval o = (do pure (.value (← Instr.sliceAt t (a.eval x) (lo.map a.eval) (hi.map a.eval) none)) : Sem Next) := by
        cases lo <;> cases hi <;> simp [execOp, ho]
      refine Did.still (h.needs _) (u := .string (strCut p l.val hh.val)) (fun w' _ => ?_) (by simp only [RV])
      rw [ho', hx]
      have key := run_cutStr (P := P) hu (w := w') (p := p) (lo := lo.map a.eval) (hi := hi.map a.eval) (l := l.val) (h := hh.val) ?_ ?_ n1 n2 n3
      · simp [key]
      · cases lo with
        | none => injection hl with e; subst e; exact .inl ⟨rfl, rfl⟩
        | some y => obtain ⟨k, hk⟩ := intV_sound (hev y) hl; exact .inr ⟨k, by simp [hk]⟩
      · cases hi with
        | none => injection hhi with e; subst e; exact .inl ⟨rfl, rfl⟩
        | some y => obtain ⟨k, hk⟩ := intV_sound (hev y) hhi; exact .inr ⟨k, by simp [hk]⟩
  | _ => rw [ho] at hop; cases hop
include hT in
theorem op_sound (h : Holds w0 fp c s a) {o : Oper} {v : V} {s' : S} (hop : op T s o.op = .ok v s') (hn : needsOK s'.needs) : Did P w0 fp c s s' a o v := by
  unfold op at hop
  split at hop
  · split at hop
    · exact opY_sound hT h hop hn
    · exact opX_sound hT h hop hn
  · exact op0_sound hT h hop hn
end
end Go.Fx
