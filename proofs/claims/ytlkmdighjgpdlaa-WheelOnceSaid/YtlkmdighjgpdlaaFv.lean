/- Still more operations. -/
import Derived.Test.YtlkmdighjgpdlaaFi
import Derived.Laws.MakeOwn
set_option linter.all false
namespace Go.Fx
open Go Go.RowKit
section
variable {P : Program} {T : TypeId → TI} (hT : TabOK P T) {w0 : World} {fp : Base} {c : C} {s : S} {a : Act}

theorem sameI_spec {x y : Operand} {p q : I} (h : sameI x y p q = true) (hx : ∀ i, x = .tmp i → y = .tmp i → p = q) : p.val = q.val := by
  unfold sameI at h
  split at h
  · simp only [beq_iff_eq] at h; subst h; rfl
  · simp only [beq_iff_eq] at h; subst h; rw [hx _ rfl rfl]
  · cases h
include hT in
theorem makeSlice_sound (h : Holds w0 fp c s a) {t e : TypeId} {n m : I} {k k' : IntKind} {q : Tp} (hdt : (T t).d = .slice e) (hq : (T e).tp = some q) (hok : (T e).ok = true) (hb : 0 < (T e).bytes) (hqs : q.size = (T e).size) (hnm : n.val = m.val) (hr : (Need.room n.val (T e).bytes).ok) :
    Tells P w0 fp c s { s with rows := s.rows ++ [⟨true, false, e, q, n, List.replicate (natI n) q.z⟩], needs := .room n.val (T e).bytes :: s.needs } a .make (fun w => (Instr.makeSlice t (.int k n.val) (.int k' m.val)).run P w) (.own s.rows.length) := by
  rw [← hnm]
  have hd := hT.desc t
  rw [hdt] at hd
  have hd1 : P.underlying t = some (.slice e) := hd
  have hs0 : 0 < (T e).size := by rw [← hqs]; exact q.size_pos
  obtain ⟨_, _, hzc, _⟩ := hT.tpOK hok hq
  have hzs := (hT.ok e hok).zsz
  have hinfo := (hT.ok e hok).info
  obtain ⟨i, hi, hie⟩ := Option.map_eq_some_iff.1 hinfo
  simp only [Prod.mk.injEq] at hie
  obtain ⟨hiz, his, hib⟩ := hie
  simp only [Need.ok] at hr
  obtain ⟨h0, h1⟩ := hr
  obtain ⟨N, hN⟩ := Int.eq_ofNat_of_zero_le h0
  have hnat : natI n = N := by rw [natI_val, hN]; rfl
  rw [hN] at h1 ⊢
  have hN1 : N ≤ 140737488355328 := by
    have : N * 1 ≤ N * (T e).bytes := Nat.mul_le_mul_left _ hb
    have h1' : ((N * (T e).bytes : Nat) : Int) ≤ 140737488355328 := by push_cast; exact h1
    omega
  have hrun := run_make (P := P) c.w t e i (T e).zero hd1 hi hiz k k' N N (Int.natCast_nonneg N) (Int.le_refl _) (by rw [hib, Int.mul_comm]; omega) (by omega)
  simp only [Int.toNat_natCast, his] at hrun
  have hlist : (madeCells (T e).zero.cells (N * (T e).size)).toList = (List.range N).flatMap fun _ => (T e).zero.cells.toList := by
    have : madeCells (T e).zero.cells (N * (T e).size) = (Array.range (N * (T e).size)).map (fun i => (T e).zero.cells[i % (T e).zero.cells.size]!) := rfl
    rw [this, zeros_flat _ N _ hzs hs0, zero_list _ _ hzs]
  have hz0 : RpL (Rp c q) (List.replicate N q.z) (madeCells (T e).zero.cells (N * (T e).size)).toList := by
    rw [hlist, hzc]
    exact RpL.replicate q.zc_sound N
  have hcap : N ≤ maxLen := by unfold maxLen; omega
  have hsz : (madeCells (T e).zero.cells (N * (T e).size)).size = N * (T e).size := size_madeCells _ _
  have hat : RowAt (c.w.alloc (.cells (madeCells (T e).zero.cells (N * (T e).size)) e)) false e q.size (.slice (some ⟨c.w.heap.size, 0, none⟩) N N) (List.replicate (natI n) q.z).length (madeCells (T e).zero.cells (N * (T e).size)).toList := by
    rw [hnat, List.length_replicate]
    refine ⟨by rw [hqs]; simpa using hsz, .inr (.inr ⟨c.w.heap.size, 0, N, rfl, Nat.le_refl _, hcap, ⟨_, e, heap_alloc_new c.w _, by simp, by rw [List.drop_zero, List.take_length]⟩, fun _ => ⟨rfl, _, heap_alloc_new c.w _, by rw [hsz, hqs]⟩⟩)⟩
  obtain ⟨le, hh⟩ := h.newRow (⟨true, false, e, q, n, List.replicate (natI n) q.z⟩ : Row) (v := .slice (some ⟨c.w.heap.size, 0, none⟩) N N) (w' := c.w.alloc (.cells (madeCells (T e).zero.cells (N * (T e).size)) e)) (us := (madeCells (T e).zero.cells (N * (T e).size)).toList) (Keeps.alloc _ _ _) hat (by rw [hnat]; simp [hN]) (by rw [hnat]; exact hz0)
    (fun k o hf => by simp only [rowF] at hf; rw [hf.1]; exact Nat.le_refl _)
  refine ⟨.slice (some ⟨c.w.heap.size, 0, none⟩) N N, c.newRow (.slice (some ⟨c.w.heap.size, 0, none⟩) N N) (c.w.alloc (.cells (madeCells (T e).zero.cells (N * (T e).size)) e)), hrun, hh.needs _, ?_, (fun _ h => by cases h), StepOK.newRow h (Keeps.alloc _ _ _) []⟩
  simp only [RV, C.newRow]
  exact ⟨by rw [h.nr]; omega, by rw [if_pos h.nr.symm], by rw [if_pos h.nr.symm]; rfl⟩
theorem intV_sound {v : V} {u : Value} {n : I} (h : RV c v u) (hv : intV v = some n) : ∃ k, u = .int k n.val := by
  unfold intV at hv
  split at hv
  · injection hv with e; subst e
    simp only [RV] at h
    exact ⟨_, h⟩
  · cases hv
theorem evs_RVs (h : RVs c s.tmps a.tmps.toList) (l : List Operand) : RVs c (l.map (ev s)) (l.map a.eval) := by
  induction l with
  | nil => exact .nil
  | cons x l ih => exact .cons (RV.ev h x) ih
theorem run_cutStr {t : TypeId} (hu : P.underlying t = some .string) {w : World} {p : ByteArray} {lo hi : Option Value} {l h : Int} (hlo : (lo = none ∧ l = 0) ∨ ∃ k, lo = some (.int k l)) (hhi : (hi = none ∧ h = p.size) ∨ ∃ k, hi = some (.int k h)) (h0 : 0 ≤ l) (h1 : l ≤ h) (h2 : h ≤ p.size) :
    (Instr.sliceAt t (.string p) lo hi none).run P w = .ok (.string (strCut p l h)) w := by
  obtain ⟨l, rfl⟩ := Int.eq_ofNat_of_zero_le h0
  obtain ⟨h, rfl⟩ := Int.eq_ofNat_of_zero_le (Int.le_trans h0 h1)
  have a1 : l ≤ h := by omega
  have a2 : h ≤ p.size := by omega
  rcases hlo with ⟨rfl, e⟩ | ⟨k, rfl⟩ <;> rcases hhi with ⟨rfl, e'⟩ | ⟨k', rfl⟩
  · obtain rfl : l = 0 := by omega
    obtain rfl : h = p.size := by omega
    simp [Instr.sliceAt, run_underlying hu, Instr.slice, Instr.sliceBounds, strCut]
  · obtain rfl : l = 0 := by omega
    simp [Instr.sliceAt, run_underlying hu, Instr.slice, Instr.sliceBounds, Instr.sliceBound, asIntOf, strCut, a2]
  · obtain rfl : h = p.size := by omega
    simp [Instr.sliceAt, run_underlying hu, Instr.slice, Instr.sliceBounds, Instr.sliceBound, asIntOf, strCut, a1]
  · simp [Instr.sliceAt, run_underlying hu, Instr.slice, Instr.sliceBounds, Instr.sliceBound, asIntOf, strCut, a1, a2]
/-! ### Objects that are made, and turned -/
theorem Keeps.trans0 {w w' w'' : World} {D D' : Foot} (h : Keeps w w' D) (h' : Keeps w' w'' D') (hD : ∀ k o, k < w.heap.size → D' k o → D k o) : Keeps w w'' D :=
  ⟨h'.os.trans h.os, h'.tape.trans h.tape, h'.output.trans h.output, Nat.le_trans h.size h'.size, fun k o hlt hn => (h'.spot k o (Nat.lt_of_lt_of_le hlt h.size) (fun q => hn (hD k o hlt q))).trans (h.spot k o hlt hn), fun k cs e f hk => by
    obtain ⟨c1, q1, q2⟩ := h.shape k cs e f hk
    obtain ⟨c2, q3, q4⟩ := h'.shape k c1 e f q1
    exact ⟨c2, q3, q4.trans q2⟩, Nat.le_trans h.drawn h'.drawn⟩
def C.newOb (c : C) (v : Value) (D : Foot) (w' : World) : C := { c with w := w', ob := fun x => if x = c.nb then v else c.ob x, fo := fun x => if x = c.nb then D else c.fo x, nb := c.nb + 1 }
theorem Holds.newOb (h : Holds w0 fp c s a) (b : Ob) {v : Value} {D : Foot} {w' : World} (hk : Keeps c.w w' (fun _ _ => False)) (ho : ObjOK fp.K w' c.F b v D) (hD : ∀ k o, D k o → c.w.heap.size ≤ k) :
    C.Le c (c.newOb v D w') ∧ Holds w0 fp (c.newOb v D w') { s with objs := s.objs ++ [b] } a := by
  have le : c.Le (c.newOb v D w') := { h.le0 (c' := c.newOb v D w') hk (fun _ _ h => h.elim) rfl with
    g := fun _ _ => rfl, nv := Nat.le_refl _, r := fun _ _ => rfl, nr := Nat.le_refl _
    ob := fun x hx => by simp only [C.newOb]; rw [if_neg (by omega)]
    nb := Nat.le_succ _ }
  have hff : ∀ q k o, foot (c.newOb v D w') { s with objs := s.objs ++ [b] } q k o → foot c s q k o ∨ (q = .o c.nb ∧ c.w.heap.size ≤ k) := by
    intro q k o hq
    cases q with
    | v x => exact .inl hq
    | r x => exact .inl hq
    | o x =>
      obtain ⟨b0, hb, hl, hf⟩ := hq
      simp only [List.getElem?_append] at hb
      simp only [C.newOb] at hf
      split at hb
      · rename_i hx
        rw [if_neg (by rw [h.nb]; omega)] at hf
        exact .inl ⟨b0, hb, hl, hf⟩
      · have hx := (List.getElem?_eq_some_iff.1 hb).1
        simp at hx
        have hx2 : x = c.nb := by rw [h.nb]; omega
        rw [if_pos hx2] at hf
        exact .inr ⟨by rw [hx2], hD k o hf⟩
  refine ⟨le, { fpk := h.fpk, lk := h.lk, keeps := h.keeps.trans0 hk (fun _ _ _ q => q.elim), eF := h.eF, eF2 := h.eF2, tmps := RVs.le le _ _ h.tmps, defers := h.defers, nv := h.nv, nr := h.nr, nb := by simp [C.newOb, h.nb], vars := ?_, rows := ?_, objs := ?_, disj := ?_, mine := ?_, free := ?_, flt := fun k o hf => Nat.lt_of_lt_of_le (h.flt k o hf) hk.size, ag := h.ag, ar := h.ar, ao := ?_ }⟩
  · intro x b0 hb hl
    exact (h.vars x b0 hb hl).keep (fun k o hf => hk.spot k o (foot_lt h (q := .v x) ⟨b0, hb, hl, hf⟩) (fun q => q)) rfl rfl (fun us hr => hr.le le)
  · intro x b0 hb hl
    exact (h.rows x b0 hb hl).keep (fun k o hf => hk.spot k o (foot_lt h (q := .r x) ⟨b0, hb, hl, hf⟩) (fun q => q)) rfl le.toLe0
  · intro x b0 hb hl
    simp only [List.getElem?_append] at hb
    simp only [C.newOb]
    split at hb
    · rename_i hx
      rw [if_neg (by rw [h.nb]; omega), if_neg (by rw [h.nb]; omega)]
      have h0 := h.objs x b0 hb hl
      exact h0.keep (fun _ _ q => q) (fun k o q => hk.spot k o (q.elim (h0.2.1 k o) (h.flt k o)) (fun q => q)) hk.size
    · have hx := (List.getElem?_eq_some_iff.1 hb).1
      simp at hx
      have hx2 : x = c.nb := by rw [h.nb]; omega
      have hx3 : x - s.objs.length = 0 := by rw [← h.nb]; omega
      rw [hx3] at hb
      simp at hb
      subst hb
      rw [if_pos hx2, if_pos hx2]
      exact ho
  · intro q q' k o h1 h2
    rcases hff q k o h1 with p1 | ⟨p1, g1⟩
    · rcases hff q' k o h2 with p2 | ⟨_, g2⟩
      · exact h.disj q q' k o p1 p2
      · exact absurd (foot_lt h p1) (by omega)
    · rcases hff q' k o h2 with p2 | ⟨p2, _⟩
      · exact absurd (foot_lt h p2) (by omega)
      · rw [p1, p2]
  · intro q k o h1
    rcases hff q k o h1 with p1 | ⟨_, g1⟩
    · exact h.mine q k o p1
    · exact ⟨.inl (Nat.le_trans h.keeps.size g1), fun hf => by have := h.flt k o hf; omega⟩
  · intro q k o h1 hq
    rcases hff q k o h1 with p1 | ⟨_, g1⟩
    · exact h.free q k o p1 hq
    · exact .inl (Nat.le_trans h.keeps.size g1)
  · intro x v0 hx
    obtain ⟨q1, b0, q2, q3⟩ := h.ao x v0 hx
    have hlt := (List.getElem?_eq_some_iff.1 q2).1
    exact ⟨by simp only [C.newOb]; rw [if_neg (by rw [h.nb]; omega)]; exact q1, b0, by simp only [List.getElem?_append_left hlt]; exact q2, q3⟩
theorem StepOK.newOb (h : Holds w0 fp c s a) {v : Value} {D : Foot} {w' : World} {b : Ob} (hk : Keeps c.w w' (fun _ _ => False)) (tch : List Rt) : StepOK c s (c.newOb v D w') { s with objs := s.objs ++ [b] } tch := by
  refine StepOK.of (D := fun _ _ => False) h hk (fun _ _ h => h.elim) (fun _ _ h => h) (fun q k o _ hq => ?_)
  cases q with
  | o x =>
    obtain ⟨b0, hb, hl, hf⟩ := hq
    have hx := (List.getElem?_eq_some_iff.1 hb).1
    refine ⟨b0, by simp only [List.getElem?_append_left hx]; exact hb, hl, ?_⟩
    simp only [C.newOb]
    rw [if_neg (by rw [h.nb]; omega)]
    exact hf
  | v x => exact hq
  | r x => exact hq
theorem Holds.setOb (h : Holds w0 fp c s a) {x : Nat} {b b' : Ob} (hb : s.objs[x]? = some b) (hlive : b.live = true) (hl' : b'.live = true) (hst : b'.k.still = b.k.still) {w' : World} (hk : Keeps c.w w' (foot c s (.o x))) (ho : ObjOK fp.K w' c.F b' (c.ob x) (c.fo x)) :
    C.Le c (c.world w') ∧ Holds w0 fp (c.world w') { s with objs := s.objs.set x b' } a := by
  have hlk : fp.lk.has (.o x) = false := by simp [LK.has, h.fpk.o]
  have hD : ∀ k o, foot c s (.o x) k o → k < c.w.heap.size → (w0.heap.size ≤ k ∨ fp.kp k o) ∧ ¬ c.F k o := fun k o hf _ => ⟨h.free _ k o hf hlk, (h.mine _ k o hf).2⟩
  have le : c.Le (c.world w') := { h.le0 (c' := c.world w') hk hD rfl with g := fun _ _ => rfl, nv := Nat.le_refl _, r := fun _ _ => rfl, nr := Nat.le_refl _, ob := fun _ _ => rfl, nb := Nat.le_refl _ }
  have hff : ∀ q k o, foot (c.world w') { s with objs := s.objs.set x b' } q k o → foot c s q k o := by
    intro q k o hq
    cases q with
    | v y => exact hq
    | r y => exact hq
    | o y =>
      obtain ⟨b0, hb0, hl0, hf⟩ := hq
      rcases set_get hb0 with ⟨rfl, _⟩ | ⟨_, hb0⟩
      · exact ⟨b, hb, hlive, hf⟩
      · exact ⟨b0, hb0, hl0, hf⟩
  refine ⟨le, { fpk := h.fpk, lk := h.lk, keeps := h.keeps.trans0 hk (fun k o hlt q => ?_), eF := h.eF, eF2 := h.eF2, tmps := RVs.le le _ _ h.tmps, defers := h.defers, nv := h.nv, nr := h.nr, nb := by simp [C.world, h.nb], vars := ?_, rows := ?_, objs := ?_, disj := fun q q' k o h1 h2 => h.disj q q' k o (hff q k o h1) (hff q' k o h2), mine := fun q k o h1 => h.mine q k o (hff q k o h1), free := fun q k o h1 hq => h.free q k o (hff q k o h1) hq, flt := fun k o hf => Nat.lt_of_lt_of_le (h.flt k o hf) hk.size, ag := h.ag, ar := h.ar, ao := ?_ }⟩
  · rcases h.free _ k o q hlk with p | p
    · omega
    · exact p
  · intro y b0 hb0 hl0
    exact (h.vars y b0 hb0 hl0).keep (fun k o hf => hk.spot k o (foot_lt h (q := .v y) ⟨b0, hb0, hl0, hf⟩) (fun q => by cases h.disj _ (.v y) k o q ⟨b0, hb0, hl0, hf⟩)) rfl rfl (fun us hr => hr.le le)
  · intro y b0 hb0 hl0
    exact (h.rows y b0 hb0 hl0).keep (fun k o hf => hk.spot k o (foot_lt h (q := .r y) ⟨b0, hb0, hl0, hf⟩) (fun q => by cases h.disj _ (.r y) k o q ⟨b0, hb0, hl0, hf⟩)) rfl le.toLe0
  · intro y b0 hb0 hl0
    rcases set_get hb0 with ⟨rfl, rfl⟩ | ⟨hne, hb0⟩
    · exact ho
    · have h0 := h.objs y b0 hb0 hl0
      exact h0.keep (fun _ _ q => q) (fun k o q => hk.spot k o (q.elim (h0.2.1 k o) (h.flt k o)) (fun hd => q.elim (fun q => by
        have := h.disj _ (.o y) k o hd ⟨b0, hb0, hl0, q⟩
        injection this with e
        exact hne e) (fun q => (h.mine _ k o hd).2 q))) hk.size
  · intro y v0 hy
    obtain ⟨q1, b0, q2, q3⟩ := h.ao y v0 hy
    refine ⟨q1, ?_⟩
    by_cases e : x = y
    · subst e
      rw [hb] at q2
      obtain rfl := Option.some.inj q2
      have hlt := (List.getElem?_eq_some_iff.1 hb).1
      exact ⟨b', by simp [hlt], hl', by rw [hst]; exact q3.2⟩
    · exact ⟨b0, by simp only [List.getElem?_set_ne e]; exact q2, q3⟩
theorem StepOK.setOb (h : Holds w0 fp c s a) {x : Nat} {b b' : Ob} (hb : s.objs[x]? = some b) (hlive : b.live = true) (hl' : b'.live = true) {w' : World} (hk : Keeps c.w w' (Fx.foot c s (.o x))) : StepOK c s (c.world w') { s with objs := s.objs.set x b' } [.o x] := by
  refine StepOK.of h hk (fun k o hd => ⟨_, by simp, hd⟩) (fun _ _ h => h) (fun q k o hne hq => ?_)
  cases q with
  | o y =>
    obtain ⟨b0, hb0, hl0, hf⟩ := hq
    have hx : x ≠ y := fun e => hne (by simp [e])
    exact ⟨b0, by simp only [List.getElem?_set_ne hx]; exact hb0, hl0, hf⟩
  | v y => exact hq
  | r y => exact hq
/-! ### Texts that are gone through -/
theorem range_sound (h : Holds w0 fp c s a) {t : TypeId} (hu : P.underlying t = some .string) (x : ByteArray) :
    Tells P w0 fp c s { s with objs := s.objs ++ [⟨true, .it, tpIt, (x, (0 : Int))⟩] } a (.other []) (fun w => (Instr.range t (.string x)).run P w) (.obj s.objs.length) := by
  have hk : Keeps c.w (c.w.alloc (.stringIter x 0)) (fun _ _ => False) := Keeps.alloc _ _ _
  have hnew : (c.w.alloc (.stringIter x 0)).heap[c.w.heap.size]? = some (.stringIter x 0) := heap_alloc_new c.w _
  obtain ⟨le, hh⟩ := h.newOb ⟨true, .it, tpIt, (x, (0 : Int))⟩ (v := .pointer (some ⟨c.w.heap.size, 0, none⟩)) (D := fun k _ => k = c.w.heap.size) hk
    ⟨⟨1, ⟨_, rfl, Int.le_refl _, hnew, fun _ _ => Iff.rfl⟩⟩, fun k o q => by subst q; exact (Array.getElem?_eq_some_iff.1 hnew).1, rfl⟩ (fun k o q => by subst q; exact Nat.le_refl _)
  refine ⟨.pointer (some ⟨c.w.heap.size, 0, none⟩), _, ?_, hh, ?_, (fun _ h => by cases h), StepOK.newOb h hk _⟩
  · simp [Instr.range, run_underlying hu, C.newOb]
  · simp only [RV, C.newOb]
    exact ⟨by rw [h.nb]; omega, by rw [if_pos h.nb.symm], by rw [if_pos h.nb.symm]; rfl⟩
theorem run_getObj_ {w : World} {r : Nat} {ob : Obj} (h : w.heap[r]? = some ob) (hc : ∀ cs e f, ob ≠ .cells cs e f := by simp) : (getObj r).run P w = .ok ob w := by
  cases ob with
  | cells cs e f => exact absurd rfl (hc cs e f)
  | _ => simp [getObj, Sem.run, h]
theorem run_setObj_ {w : World} {r : Nat} {ob : Obj} (h : w.heap[r]? = some ob) (o : Obj) (hc : ∀ cs e f, ob ≠ .cells cs e f := by simp) : (setObj r o).run P w = .ok () { w with heap := w.heap.setIfInBounds r o } := by
  cases ob with
  | cells cs e f => exact absurd rfl (hc cs e f)
  | _ => simp [setObj, Sem.run, h]
theorem setBlock_keeps {w : World} {k : Nat} {ob ob' : Obj} (hk : w.heap[k]? = some ob) (hc : ∀ cs e f, ob ≠ .cells cs e f) : ({ w with heap := w.heap.setIfInBounds k ob' } : World).heap[k]? = some ob' ∧ Keeps w { w with heap := w.heap.setIfInBounds k ob' } (fun k' _ => k' = k) := by
  have hlt : k < w.heap.size := (Array.getElem?_eq_some_iff.1 hk).1
  refine ⟨by simp [hlt], ⟨rfl, rfl, rfl, by simp, fun k' o _ hn => spot_of_block (by simp only [Array.getElem?_setIfInBounds]; rw [if_neg (fun e => hn e.symm)]) o, fun k' cs e f hk' => ?_, Nat.le_refl _⟩⟩
  by_cases e0 : k = k'
  · subst e0
    rw [hk] at hk'
    exact absurd (Option.some.inj hk') (hc _ _ _)
  · exact ⟨cs, by simp only [Array.getElem?_setIfInBounds]; rw [if_neg e0]; exact hk', rfl⟩
theorem next_sound (h : Holds w0 fp c s a) {x : Nat} {u : Value} {t : TypeId} {v : V} {s' : S} (hx : RV c (.obj x) u) (hop : opNext s x = .ok v s') :
    Tells P w0 fp c s s' a (.other [.o x]) (fun w => (Instr.next u true t).run P w) v := by
  unfold opNext at hop
  split at hop
  case h_2 => cases hop
  rename_i b hb
  split at hop
  case isFalse => cases hop
  rename_i ht
  split at hop
  case isFalse => cases hop
  rename_i hc
  simp only [Bool.and_eq_true, decide_eq_true_eq, Bool.not_eq_true'] at hc
  obtain ⟨⟨hlive, hkd⟩, _⟩ := hc
  obtain ⟨live, kd, tb, e⟩ := b
  simp only at hkd hlive ht
  subst hkd hlive
  obtain rfl := Tp.of_eq ht
  obtain ⟨rfl, rfl⟩ := R.ok.inj hop
  rw [Tp.cast_rfl]
  simp only [RV] at hx
  obtain ⟨hlt, rfl, _⟩ := hx
  obtain ⟨⟨f, hobj⟩, hlt2, hone⟩ := h.objs x _ hb rfl
  cases f with
  | zero => exact hobj.elim
  | succ f =>
    obtain ⟨k0, h1, h2, h3, h4⟩ := hobj
    obtain ⟨tx, p⟩ := e
    simp only at h2 h3
    obtain ⟨p, rfl⟩ := Int.eq_ofNat_of_zero_le h2
    rw [Int.toNat_natCast] at h3
    rw [h1]
    simp only [runeAt, stepAt, Int.toNat_natCast]
    by_cases hp : p < tx.size
    · obtain ⟨q1, q2⟩ := setBlock_keeps (ob' := .stringIter tx (p + (Utf8.decode tx p).2)) h3 (fun _ _ _ => by simp)
      have hkp := q2.mono (D' := foot c s (.o x)) fun k o hd => ⟨_, hb, rfl, (h4 k o).2 hd⟩
      have hp' : (p : Int) < tx.size := by omega
      obtain ⟨le, hh⟩ := h.setOb hb rfl (b' := ⟨true, .it, tpIt, (tx, (p : Int) + ((Utf8.decode tx p).2 : Int))⟩) rfl rfl hkp
        ⟨⟨1, ⟨k0, h1, (by omega : (0 : Int) ≤ (p : Int) + ((Utf8.decode tx p).2 : Int)), q1, h4⟩⟩, fun k o q => by rw [(h4 k o).1 q]; exact (Array.getElem?_eq_some_iff.1 q1).1, hone⟩
      rw [if_pos hp']
      refine ⟨.tuple #[.bool true, .int .i64 p, .int .i32 (Utf8.decode tx p).1], _, ?_, hh, ?_, (fun _ h => by cases h), StepOK.setOb h hb rfl rfl hkp⟩
      · simp [Instr.next, run_getObj_ h3, run_setObj_ h3, hp, goInt, C.world]
      · simp [RV, hp']
    · have hp' : ¬ (p : Int) < tx.size := by omega
      have hk := Keeps.refl c.w (foot c s (.o x))
      obtain ⟨le, hh⟩ := h.setOb hb rfl (b' := ⟨true, .it, tpIt, (tx, (p : Int))⟩) rfl rfl hk
        ⟨⟨1, ⟨k0, h1, (by omega : (0 : Int) ≤ (p : Int)), h3, h4⟩⟩, hlt2, hone⟩
      rw [if_neg hp']
      refine ⟨.tuple #[.bool false], _, ?_, hh, ?_, (fun _ h => by cases h), StepOK.setOb h hb rfl rfl hk⟩
      · simp [Instr.next, run_getObj_ h3, hp, C.world]
      · simp [RV, hp']
theorem isNilP_sound {v : V} {u : Value} (h : RV c v u) (hv : isNilP v = true) : u = .pointer none := by
  unfold isNilP at hv
  split at hv
  · simpa only [RV] using h
  · cases hv
theorem isPtr_sound {v : V} {u : Value} (h : RV c v u) (hv : isPtr v = true) : ∃ ad, u = .pointer (some ad) := by
  cases v with
  | lp x o => simp only [RV] at h; exact ⟨_, h.2⟩
  | rp t l i j => simp only [RV] at h; obtain ⟨_, _, g, o, vs, e, _⟩ := h; exact ⟨_, e⟩
  | op r sz i j => simp only [RV] at h; obtain ⟨_, g, o, n, cap, _, _, _, e⟩ := h; exact ⟨_, e⟩
  | _ => cases hv
theorem equalIn_nilL {d : Nat} {t el : TypeId} (hu : P.underlying t = some (.pointer el)) (q : Option Addr) (w : World) : (Op.equalIn (d + 1) t (.pointer none) (.pointer q)).run P w = .ok q.isNone w := by
  simp [Op.equalIn, run_underlying hu]
theorem equalIn_nilR {d : Nat} {t el : TypeId} (hu : P.underlying t = some (.pointer el)) (p : Addr) (w : World) : (Op.equalIn (d + 1) t (.pointer (some p)) (.pointer none)).run P w = .ok false w := by
  simp [Op.equalIn, run_underlying hu]
theorem equal_nilL {t el : TypeId} (hu : P.underlying t = some (.pointer el)) (q : Option Addr) (w : World) : (Op.equal t (.pointer none) (.pointer q)).run P w = .ok q.isNone w := equalIn_nilL (d := 9999) hu q w
theorem equal_nilR {t el : TypeId} (hu : P.underlying t = some (.pointer el)) (p : Addr) (w : World) : (Op.equal t (.pointer (some p)) (.pointer none)).run P w = .ok false w := equalIn_nilR (d := 9999) hu p w
include hT in
theorem opY_sound (h : Holds w0 fp c s a) {o : Oper} {v : V} {s' : S} (hop : opY T s o.op = .ok v s') (hn : needsOK s'.needs) : Did P w0 fp c s s' a o v := by
  have hev : ∀ x : Operand, RV c (ev s x) (a.eval x) := fun x => RV.ev h.tmps x
  cases ho : o.op with
  | makeSlice t l cp =>
    rw [ho] at hop
    simp only [opY] at hop
    split at hop
    case h_2 => cases hop
    rename_i k n k' m e hl hc hd
    split at hop
    case h_2 => cases hop
    rename_i q hq
    split at hop
    case isFalse => cases hop
    rename_i hcond
    simp only [Bool.and_eq_true, decide_eq_true_eq, beq_iff_eq] at hcond
    obtain ⟨⟨⟨hok, hb⟩, hqs⟩, hsame⟩ := hcond
    obtain ⟨rfl, rfl⟩ := R.ok.inj hop
    have hx := hev l
    have hy := hev cp
    rw [hl] at hx
    rw [hc] at hy
    simp only [RV] at hx hy
    have hnm : n.val = m.val := sameI_spec hsame (fun i e1 e2 => by
      rw [e1] at hl; rw [e2] at hc; rw [hl] at hc; injection hc)
    refine Did.of (f := Instr.makeSlice t (a.eval l) (a.eval cp)) (by simp only [execOp, ho]) (q := .make) (by rw [ho]; exact ⟨(fun h => by cases h), .inl rfl⟩) ?_
    rw [hx, hy]
    exact makeSlice_sound hT h hd hq hok hb hqs hnm hn.1
  | range t x =>
    rw [ho] at hop
    simp only [opY] at hop
    split at hop
    case h_2 => cases hop
    rename_i z hd hxe
    obtain ⟨rfl, rfl⟩ := R.ok.inj hop
    have hx := hev x
    rw [hxe] at hx
    simp only [RV] at hx
    have hdt := hT.desc t
    rw [hd] at hdt
    refine Did.of (f := Instr.range t (a.eval x)) (by simp only [execOp, ho]) (q := .other []) (by rw [ho]; exact ⟨(fun h => by cases h), .inl rfl⟩) ?_
    rw [hx]
    exact range_sound h hdt z
  | next x str =>
    rw [ho] at hop
    cases str with
    | false => cases hop
    | true =>
      simp only [opY] at hop
      split at hop
      case h_2 => cases hop
      rename_i y hxe
      have hx := hev x
      rw [hxe] at hx
      refine Did.of (f := Instr.next (a.eval x) true o.type) (by simp only [execOp, ho]) (q := .other [.o y]) (by rw [ho]; exact ⟨(fun h => by cases h), .inr (by simp only [touchO, hxe, Kind.tch])⟩) ?_
      exact next_sound h hx hop
  | extract x i =>
    rw [ho] at hop
    simp only [opY] at hop
    have hx := hev x
    split at hop
    case h_4 => cases hop
    · rename_i b p r hxe
      obtain ⟨rfl, rfl⟩ := R.ok.inj hop
      rw [hxe] at hx
      simp only [RV] at hx
      refine Did.still h (u := .bool b) (fun w' _ => ?_) (by simp [RV, Bval_s])
      cases b <;> simp [execOp, ho, hx, Instr.extract]
    · rename_i b p r hxe
      obtain ⟨rfl, rfl⟩ := R.ok.inj hop
      rw [hxe] at hx
      simp only [RV] at hx
      have hb : b = true := hn.1
      subst hb
      refine Did.still (h.needs _) (u := .int .i64 p) (fun w' _ => ?_) (by simp [RV, Ival_s])
      simp [execOp, ho, hx, Instr.extract]
    · rename_i b p r hxe
      obtain ⟨rfl, rfl⟩ := R.ok.inj hop
      rw [hxe] at hx
      simp only [RV] at hx
      have hb : b = true := hn.1
      subst hb
      refine Did.still (h.needs _) (u := .int .i32 r) (fun w' _ => ?_) (by simp [RV, Ival_s])
      simp [execOp, ho, hx, Instr.extract]
  | makeFunc fn first caps =>
    rw [ho] at hop
    cases fn with
    | func f =>
      simp only [opY] at hop
      split at hop
      case isFalse => cases hop
      rename_i hf
      obtain ⟨rfl, rfl⟩ := R.ok.inj hop
      have hf' : first = #[] := by apply Array.ext'; simpa using hf
      subst hf'
      refine Did.still h (u := .func (.func f) #[] (caps.map a.eval)) (fun w' _ => by simp [execOp, ho, Instr.makeFunc]) ?_
      simp only [RV]
      exact ⟨_, rfl, by simpa using evs_RVs h.tmps caps.toList⟩
    | _ => cases hop
  | binOp b t x y yt =>
    rw [ho] at hop
    simp only [opY] at hop
    have hx := hev x
    have hy := hev y
    split at hop
    case h_2 =>
      split at hop
      case h_2 => cases hop
      rename_i el hd
      have hdt := hT.desc t
      rw [hd] at hdt
      have hu : P.underlying t = some (.pointer el) := hdt
      have key : ∀ b, nilEq (ev s x) (ev s y) = some b → ∃ p q, a.eval x = .pointer p ∧ a.eval y = .pointer q ∧ ∀ w' : World, (Op.equal t (.pointer p) (.pointer q)).run P w' = .ok b w' := fun b hb => by
        unfold nilEq at hb
        split at hb
        · rename_i hc
          simp only [Bool.and_eq_true] at hc
          obtain rfl := Option.some.inj hb
          have e1 := isNilP_sound hx hc.1
          have e2 := isNilP_sound hy hc.2
          exact ⟨none, none, e1, e2, fun w' => equal_nilL hu none w'⟩
        · split at hb
          · rename_i hc
            obtain rfl := Option.some.inj hb
            simp only [Bool.or_eq_true, Bool.and_eq_true] at hc
            rcases hc with ⟨c1, c2⟩ | ⟨c1, c2⟩
            · obtain ⟨ad, e2⟩ := isPtr_sound hy c2
              exact ⟨none, some ad, isNilP_sound hx c1, e2, fun w' => equal_nilL hu (some ad) w'⟩
            · obtain ⟨ad, e1⟩ := isPtr_sound hx c1
              exact ⟨some ad, none, e1, isNilP_sound hy c2, fun w' => equal_nilR hu ad w'⟩
          · cases hb
      split at hop
      case h_3 => cases hop
      · rename_i r hb
        obtain ⟨rfl, rfl⟩ := R.ok.inj hop
        obtain ⟨p, q, e1, e2, he⟩ := key _ hb
        exact Did.eql (r := r) h ho e1 e2 (fun w' o => by cases o <;> rfl) (.inl rfl) (fun w' => by simp [binOp, he]) (fun w' => by simp [binOp, he]) (by simp [RV, Bval_l])
      · rename_i r hb
        obtain ⟨rfl, rfl⟩ := R.ok.inj hop
        obtain ⟨p, q, e1, e2, he⟩ := key _ hb
        exact Did.eql (r := r) h ho e1 e2 (fun w' o => by cases o <;> rfl) (.inr rfl) (fun w' => by simp [binOp, he]) (fun w' => by simp [binOp, he]) (by simp [RV, Bval_l])
    rename_i p q hxe hye
    rw [hxe] at hx
    rw [hye] at hy
    simp only [RV] at hx hy
    split at hop
    case h_4 => cases hop
    · obtain ⟨rfl, rfl⟩ := R.ok.inj hop
      have hle := hn.1
      simp only [Need.ok] at hle
      refine Did.still (h.needs _) (u := .string (p ++ q)) (fun w' _ => ?_) (by simp only [RV])
      have : ¬ ((p.size : Int) + q.size > IntKind.i64.max) := by
        have : IntKind.i64.max = 9223372036854775807 := by decide
        rw [this]; omega
      simp [execOp, ho, hx, hy, eqGuard, binOp, Op.stringOp, this]
      omega
    · obtain ⟨rfl, rfl⟩ := R.ok.inj hop
      exact Did.still h (u := .bool (Op.bytesLess p.toList q.toList)) (fun w' _ => by simp [execOp, ho, hx, hy, eqGuard, binOp, Op.stringOp]) (by simp [RV, Bval_s])
    · obtain ⟨rfl, rfl⟩ := R.ok.inj hop
      exact Did.still h (u := .bool (!(Op.bytesLess p.toList q.toList))) (fun w' _ => by simp [execOp, ho, hx, hy, eqGuard, binOp, Op.stringOp]) (by simp [RV, Bval_s])
  | index t x i =>
    rw [ho] at hop
    simp only [opY] at hop
    split at hop
    case h_2 => cases hop
    rename_i p k n hd hxe hie
    obtain ⟨rfl, rfl⟩ := R.ok.inj hop
    have hx := hev x
    have hi := hev i
    rw [hxe] at hx
    rw [hie] at hi
    simp only [RV] at hx hi
    have hdt := hT.desc t
    rw [hd] at hdt
    have hu : P.underlying t = some .string := hdt
    have hle := hn.1
    simp only [Need.ok] at hle
    obtain ⟨m, hm⟩ := Int.eq_ofNat_of_zero_le hle.1
    rw [hm] at hle hi
    have hlt : m < p.size := by omega
    refine Did.still (h.needs _) (u := .int .u8 (strAt p n.val)) (fun w' _ => ?_) (by simp [RV, Ival_s])
    have hget : p[m]? = some (p.toList.getD m 0) := by
      have h2 : m < p.data.size := hlt
      rw [getElem?_pos p m hlt, bytes_toList, List.getD_eq_getElem?_getD, List.getElem?_eq_getElem (by simpa using h2), Option.getD_some]
      rfl
    simp [execOp, ho, hx, hi, Instr.index, asIntOf, run_underlying hu, hget, strAt, hm]
  | slice t x lo hi mx =>
    rw [ho] at hop
    cases mx with
    | some _ => simp [opY] at hop
    | none =>
      simp only [opY] at hop
      split at hop
      case h_2 => cases hop
      rename_i p hd hxe
      split at hop
      case h_2 => cases hop
      rename_i l hh hl hhi
      obtain ⟨rfl, rfl⟩ := R.ok.inj hop
      have hdt := hT.desc t
      rw [hd] at hdt
      have hu : P.underlying t = some .string := hdt
      obtain ⟨n1, n2, n3, _⟩ := hn
      simp only [Need.ok] at n1 n2 n3
      have hx := hev x
      rw [hxe] at hx
      simp only [RV] at hx
      have ho' : execOp a.eval o = (do pure (.value (← Instr.sliceAt t (a.eval x) (lo.map a.eval) (hi.map a.eval) none)) : Sem Next) := by
        cases lo <;> cases hi <;> simp [execOp, ho]
      refine Did.still (h.needs _) (u := .string (strCut p l.val hh.val)) (fun w' _ => ?_) (by simp only [RV])
      rw [ho', hx]
      have key := run_cutStr (P := P) hu (w := w') (p := p) (lo := lo.map a.eval) (hi := hi.map a.eval) (l := l.val) (h := hh.val) ?_ ?_ n1 n2 n3
      · simp [key]
      · cases lo with
        | none => injection hl with e; subst e; exact .inl ⟨rfl, rfl⟩
        | some y => obtain ⟨k, hk⟩ := intV_sound (hev y) hl; exact .inr ⟨k, by simp [hk]⟩
      · cases hi with
        | none => injection hhi with e; subst e; exact .inl ⟨rfl, rfl⟩
        | some y => obtain ⟨k, hk⟩ := intV_sound (hev y) hhi; exact .inr ⟨k, by simp [hk]⟩
  | _ => rw [ho] at hop; cases hop
include hT in
theorem op_sound (h : Holds w0 fp c s a) {o : Oper} {v : V} {s' : S} (hop : op T s o.op = .ok v s') (hn : needsOK s'.needs) : Did P w0 fp c s s' a o v := by
  unfold op at hop
  split at hop
  · split at hop
    · exact opY_sound hT h hop hn
    · exact opX_sound hT h hop hn
  · exact op0_sound hT h hop hn
end
end Go.Fx
