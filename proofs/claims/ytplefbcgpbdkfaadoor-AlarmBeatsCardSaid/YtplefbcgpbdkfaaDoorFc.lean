/- Blocks and their places; what holds between what is known and what is. -/
import Derived.Test.YtplefbcgpbdkfaaDoorFb
set_option linter.all false
namespace Go.Fx
open Go Go.RowKit

/-! ### The table of types -/
def aggD : TypeDesc → Bool
  | .struct _ | .array _ _ => true
  | _ => false
def descOK (P : Program) (t : TypeId) : Ty → Prop
  | .int k => P.underlying t = some (.int k)
  | .bool => P.underlying t = some .bool
  | .str => P.underlying t = some .string
  | .slice e => P.underlying t = some (.slice e)
  | .arr n e => P.underlying t = some (.array n e)
  | .ptr e => P.underlying t = some (.pointer e)
  | .struct fs => P.underlying t = some (.struct (P.fieldsOf t)) ∧ (P.fieldsOf t).toList.map (fun f => (f.offset, f.type)) = fs ∧ ((P.fieldsOf t).toList.all fun f => (P.info? f.type).any (·.size != 0)) = true
  | .other => True
/-- The cells' kinds of a type whose values may be compared. -/
def eqFs (P : Program) (f : TypeId → Option (List Kd)) : Nat → List Field → Option (List Kd)
  | _, [] => some []
  | off, fd :: fs => match f fd.type, eqFs P f (off + (P.info? fd.type).elim 0 (·.size)) fs with
    | some k, some ks => if fd.name != "_" && fd.offset == off && (P.info? fd.type).any (fun i => i.size == k.length) && k.length != 0 then some (k ++ ks) else none
    | _, _ => none
def eqB (P : Program) : Nat → TypeId → Option (List Kd)
  | 0, _ => none
  | d + 1, t => match P.underlying t with
    | some (.int k) => some [.i k]
    | some .bool => some [.b]
    | some .string => some [.s]
    | some (.struct fs) => if P.stoodInHeld t then none else eqFs P (eqB P d) 0 fs.toList
    | _ => none
/-- The cells of nought. -/
def Tp.zc : Tp → List Value
  | .i k => [.int k 0]
  | .bo => [.bool false]
  | .tx => [.string ByteArray.empty]
  | .pt => [.pointer none]
  | .p a b => a.zc ++ b.zc
  | .sl _ => [.slice none 0 0]
  | .opt _ => [.bool false]
theorem Tp.zc_sound {c : C} : ∀ t : Tp, Rp c t t.z t.zc
  | .i _ | .bo | .tx | .opt _ | .pt => rfl
  | .p a b => ⟨_, _, rfl, a.zc_sound, b.zc_sound⟩
  | .sl t => ⟨none, 0, rfl, Nat.le_refl _, Nat.zero_le _, .inl rfl⟩
/-- The cells' kinds of data that may be compared. -/
def Tp.kds : Tp → Option (List Kd)
  | .i k => some [.i k]
  | .bo => some [.b]
  | .tx => some [.s]
  | .p a b => match a.kds, b.kds with | some x, some y => some (x ++ y) | _, _ => none
  | .sl _ => none
  | .opt _ => none
  | .pt => none
structure TIOK (P : Program) (ti : TI) (t : TypeId) : Prop where
  info : (P.info? t).map (fun i => (i.zero, i.size, i.bytes)) = some (some ti.zero, ti.size, ti.bytes)
  zsz : ti.zero.cells.size = ti.size
  agg : (P.underlying t).map aggD = some (aggTy ti.d)
  one : aggTy ti.d = false → ti.size = 1
  eq : ti.eqk ≠ [] → eqB P 6 t = some ti.eqk ∧ P.eqGuardType P.depth t = false
  tp : ∀ q, ti.tp = some q → q.size = ti.size ∧ q.isP = aggTy ti.d ∧ ti.zero.cells.toList = q.zc ∧ (ti.eqk ≠ [] → q.kds = some ti.eqk)
structure TabOK (P : Program) (T : TypeId → TI) : Prop where
  desc : ∀ t, descOK P t (T t).d
  ok : ∀ t, (T t).ok = true → TIOK P (T t) t

section
variable {P : Program} {T : TypeId → TI} (hT : TabOK P T)
include hT
theorem TabOK.info {t : TypeId} (h : (T t).ok = true) : ∃ i, P.info? t = some i ∧ i.zero = some (T t).zero ∧ i.size = (T t).size ∧ i.bytes = (T t).bytes := info_parts (hT.ok t h).info
theorem TabOK.run_size {t : TypeId} (h : (T t).ok = true) (w : World) : (sizeOf t).run P w = .ok (T t).size w := by
  obtain ⟨i, hi, _, hs, _⟩ := hT.info h
  simp [sizeOf, typeInfo, hi, hs]
theorem TabOK.run_zero {t : TypeId} (h : (T t).ok = true) (w : World) : (zeroValue t).run P w = .ok (T t).zero w := by
  obtain ⟨i, hi, hz, _, _⟩ := hT.info h
  simp [zeroValue, typeInfo, hi, hz]
theorem TabOK.run_agg {t : TypeId} (h : (T t).ok = true) (w : World) : (isAgg t).run P w = .ok (aggTy (T t).d) w := by
  have := (hT.ok t h).agg
  cases hu : P.underlying t with
  | none => simp [hu] at this
  | some d =>
    simp [hu] at this
    unfold isAgg
    rw [Sem.run_bind, run_underlying hu w]
    rw [← this]
    cases d <;> simp [aggD]
end

def shapeU (ti : TI) (us : List Value) : Value := if aggTy ti.d then .agg us.toArray else us.getD 0 undef
theorem shape_RV {c : C} {ti : TI} {vs : List V} {us : List Value} (h : RVs c vs us) : RV c (shapeV ti vs) (shapeU ti us) := by
  unfold shapeV shapeU
  split
  · simp only [RV]; exact ⟨_, rfl, by simpa using h⟩
  · exact h.getD 0 undef
section
variable {P : Program} {T : TypeId → TI} (hT : TabOK P T)
include hT
theorem TabOK.run_loadVar {t : TypeId} (h : (T t).ok = true) (w : World) (a : Addr) (us : List Value) (hl : us.length = (T t).size) (hc : ∀ j v, us[j]? = some v → w.cell? (a.add j) = some v) :
    (loadVar t a).run P w = .ok (shapeU (T t) us) w := by
  unfold loadVar
  rw [Sem.run_bind, hT.run_agg h w]
  simp only [Result.andThen_ok]
  unfold shapeU
  cases hg : aggTy (T t).d with
  | true =>
    simp only [if_true, Sem.run_bind, hT.run_size h w, Result.andThen_ok]
    rw [← hl, run_loadCells_list (P := P) w a us hc]
    rfl
  | false =>
    simp only [Bool.false_eq_true, if_false]
    have h1 := (hT.ok t h).one hg
    obtain ⟨u, hu⟩ : ∃ u, us = [u] := by
      match us, hl.trans h1 with
      | [u], _ => exact ⟨u, rfl⟩
    subst hu
    have := hc 0 u rfl
    simp only [Addr.add_zero'] at this
    simp [this]
theorem TabOK.run_storeVar {t : TypeId} (h : (T t).ok = true) (w : World) (g o : Nat) (e : TypeId) (cur : Array Value) (u : Value) (hh : w.heap[g]? = some (.cells cur e (0, 0)))
    (hs : u.cells.size = (T t).size) (hl : o + u.cells.size ≤ cur.size) (h1 : ∀ x ∈ u.cells.toList, x.oneCell' = true) :
    (storeVar t ⟨g, o, none⟩ u).run P w = .ok () (w.setRow g (cur.toList.take o ++ u.cells.toList ++ cur.toList.drop (o + u.cells.size)).toArray) := by
  have := run_storeCells_at P g o e u.cells.toList 0 cur w hh (by simpa using hl) h1
  unfold storeVar
  simp only [Sem.run_bind, hT.run_size h w, Result.andThen_ok, hs, ne_eq, not_true_eq_false, if_false]
  simpa [hs] using this
end

/-! ### Places -/
theorem spot_of_block {w w' : World} {k : Nat} (h : w'.heap[k]? = w.heap[k]?) (o : Nat) : spot w' k o = spot w k o := by simp [spot, h]
theorem spot_cells {w w' : World} {k o : Nat} {cs : Array Value} {e : TypeId} {f : Nat × Nat} (h : spot w' k o = spot w k o) (hc : w.heap[k]? = some (.cells cs e f)) :
    ∃ cs', w'.heap[k]? = some (.cells cs' e f) ∧ cs'.size = cs.size ∧ cs'[o]? = cs[o]? := by
  unfold spot at h
  rw [hc] at h
  cases h2 : w'.heap[k]? with
  | none => rw [h2] at h; simp at h
  | some ob =>
    rw [h2] at h
    cases ob with
    | cells cs' e' f' =>
      simp only [Option.some.injEq, Prod.mk.injEq, Obj.cells.injEq] at h
      obtain ⟨⟨h3, rfl, rfl⟩, h4⟩ := h
      refine ⟨cs', rfl, h4, ?_⟩
      by_cases ho : o < cs.size
      · have e1 : (cs.extract o (o + 1))[0]? = cs[o]? := by simp [Array.getElem?_extract]; omega
        have e2 : (cs'.extract o (o + 1))[0]? = cs'[o]? := by simp [Array.getElem?_extract]; omega
        rw [← e1, ← e2, h3]
      · rw [Array.getElem?_eq_none (by omega), Array.getElem?_eq_none (by omega)]
    | _ => simp at h
theorem block_of_spots {w w' : World} {k : Nat} (h : ∀ o, spot w' k o = spot w k o) : w'.heap[k]? = w.heap[k]? := by
  cases h1 : w.heap[k]? with
  | none =>
    have := h 0
    unfold spot at this
    rw [h1] at this
    cases h2 : w'.heap[k]? with
    | none => rfl
    | some ob => rw [h2] at this; cases ob <;> simp at this
  | some ob =>
    cases ob with
    | cells cs e f =>
      obtain ⟨cs', h2, h3, _⟩ := spot_cells (h 0) h1
      rw [h2]
      have : cs' = cs := by
        apply Array.ext h3
        intro i hi hi'
        obtain ⟨cs2, h4, _, h5⟩ := spot_cells (h i) h1
        rw [h2] at h4
        simp only [Option.some.injEq, Obj.cells.injEq] at h4
        obtain ⟨rfl, _⟩ := h4
        rw [Array.getElem?_eq_getElem hi, Array.getElem?_eq_getElem hi'] at h5
        exact Option.some.inj h5
      rw [this]
    | _ =>
      have := h 0
      unfold spot at this
      rw [h1] at this
      cases h2 : w'.heap[k]? with
      | none => rw [h2] at this; simp at this
      | some ob' => rw [h2] at this; cases ob' <;> simp at this <;> simp [this]
theorem spot_setRow_other (w : World) (g : Nat) (cs : Array Value) {k : Nat} (o : Nat) (h : k ≠ g) : spot (w.setRow g cs) k o = spot w k o := spot_of_block (setRow_other w g k cs h) o
theorem spot_setRow_same {w : World} {g o : Nat} {cur cs : Array Value} {e : TypeId} {f : Nat × Nat} (hg : w.heap[g]? = some (.cells cur e f)) (hs : cs.size = cur.size) (ho : cs[o]? = cur[o]?) : spot (w.setRow g cs) g o = spot w g o := by
  unfold spot
  rw [setRow_heap w g cur cs e f hg, hg]
  have : cs.extract o (o + 1) = cur.extract o (o + 1) := by
    apply Array.ext (by simp [hs])
    intro i hi hi'
    simp only [Array.size_extract] at hi hi'
    obtain rfl : i = 0 := by omega
    simp only [Array.getElem_extract, Nat.add_zero]
    rw [Array.getElem?_eq_getElem (by omega), Array.getElem?_eq_getElem (by omega)] at ho
    exact Option.some.inj ho
  simp [this, hs]
/-- Blocks stay as great as they were. -/
def Shape (w w' : World) : Prop := ∀ (k : Nat) (cs : Array Value) (e : TypeId) (f : Nat × Nat), w.heap[k]? = some (.cells cs e f) → ∃ cs' : Array Value, w'.heap[k]? = some (.cells cs' e f) ∧ cs'.size = cs.size
structure Keeps (w w' : World) (D : Foot) : Prop where
  os : w'.os = w.os
  tape : w'.tape = w.tape
  output : w'.output = w.output
  size : w.heap.size ≤ w'.heap.size
  spot : ∀ k o, k < w.heap.size → ¬ D k o → spot w' k o = spot w k o
  shape : Shape w w'
  drawn : w.drawn ≤ w'.drawn
theorem Keeps.refl (w : World) (D : Foot) : Keeps w w D := ⟨rfl, rfl, rfl, Nat.le_refl _, fun _ _ _ _ => rfl, fun _ cs _ _ h => ⟨cs, h, rfl⟩, Nat.le_refl _⟩
theorem shape_of_blocks {w w' : World} (h : ∀ k, k < w.heap.size → w'.heap[k]? = w.heap[k]?) : Shape w w' :=
  fun k cs e f hk => ⟨cs, by rw [h k (Array.getElem?_eq_some_iff.1 hk).1]; exact hk, rfl⟩
theorem shape_setRow {w : World} {g : Nat} {cur cs : Array Value} {el : TypeId} {fz : Nat × Nat} (hg : w.heap[g]? = some (.cells cur el fz)) (hs : cs.size = cur.size) : Shape w (w.setRow g cs) := fun k c e f hk => by
  by_cases h : k = g
  · subst h
    rw [hg] at hk
    simp only [Option.some.injEq, Obj.cells.injEq] at hk
    obtain ⟨rfl, rfl, rfl⟩ := hk
    exact ⟨cs, setRow_heap w k cur cs el fz hg, hs⟩
  · exact ⟨c, by rw [setRow_other w g k cs h]; exact hk, rfl⟩
theorem Keeps.alloc (w : World) (ob : Obj) (D : Foot) : Keeps w (w.alloc ob) D := ⟨rfl, rfl, rfl, by show _ ≤ (w.heap.push ob).size; simp, fun k o hk _ => spot_of_block (heap_alloc_old w ob hk) o, shape_of_blocks (fun k hk => heap_alloc_old w ob hk), Nat.le_refl _⟩
theorem Keeps.grown {w w' : World} {row : Option Nat} (h : w.grownBy w' row) (hs : Shape w w') (hd : w.drawn ≤ w'.drawn) : Keeps w w' (fun k _ => row = some k) := ⟨h.os, h.tape, h.output, h.size, fun k o hk hn => spot_of_block (h.block k hk (fun e => hn e.symm)) o, hs, hd⟩
theorem spot_lt {w : World} {k o : Nat} {x : Obj × Nat} (h : spot w k o = some x) : k < w.heap.size := by
  unfold spot at h
  cases hk : w.heap[k]? with
  | none => rw [hk] at h; simp at h
  | some ob => exact (Array.getElem?_eq_some_iff.1 hk).1

/-! ### Variables and rows -/
def Need.ok : Need → Prop
  | .idx i n => 0 ≤ i ∧ i < n
  | .le a b => a ≤ b
  | .room n bytes => 0 ≤ n ∧ n * bytes ≤ 140737488355328
  | .nonneg a => 0 ≤ a
  | .ne a b => a ≠ b
  | .tru b => b = true
def needsOK : List Need → Prop
  | [] => True
  | n :: ns => n.ok ∧ needsOK ns
def RCt (c : C) : Ctn → List Value → Prop
  | .pk t e, us => Rp c t e us
  | .ls l, us => RVs c l us
theorem RCt.cells {c : C} {ct : Ctn} {us : List Value} (h : RCt c ct us) : RVs c ct.cells us := by
  cases ct with
  | pk t e => exact Tp.cells_sound h
  | ls l => exact h
theorem Tp.cells_length : ∀ (t : Tp) (e : t.T), (t.cells e).length = t.size
  | .i _, _ | .bo, _ | .tx, _ | .sl _, _ | .opt _, _ | .pt, _ => rfl
  | .p a b, e => by simp [Tp.cells, Tp.size, a.cells_length, b.cells_length]
theorem Ctn.cells_length (ct : Ctn) : ct.cells.length = ct.size := by
  cases ct with
  | pk t e => exact t.cells_length e
  | ls l => rfl
theorem RCt.length {c : C} {ct : Ctn} {us : List Value} (h : RCt c ct us) : us.length = ct.size := by rw [h.cells.length, ct.cells_length]
theorem RCt.le {c c' : C} (h : c.Le c') {ct : Ctn} {us : List Value} (hr : RCt c ct us) : RCt c' ct us := by
  cases ct with
  | pk t e => exact Rp.le h.toLe0 hr
  | ls l => exact RVs.le h _ _ hr
/-- Cells that stand somewhere. -/
structure Cells (w : World) (g o : Nat) (us : List Value) : Prop where
  at_ : ∃ cur el, w.heap[g]? = some (.cells cur el (0, 0)) ∧ o + us.length ≤ cur.size ∧ (cur.toList.drop o).take us.length = us
theorem Cells.lt {w : World} {g o : Nat} {us : List Value} (h : Cells w g o us) : g < w.heap.size := by
  obtain ⟨cur, el, hg, _⟩ := h.at_
  exact (Array.getElem?_eq_some_iff.1 hg).1
theorem Cells.get {w : World} {g o : Nat} {us : List Value} (h : Cells w g o us) {j : Nat} {u : Value} (hu : us[j]? = some u) : w.cell? ⟨g, o + j, none⟩ = some u := by
  obtain ⟨cur, el, hg, hl, he⟩ := h.at_
  rw [cell_of_row w g _ cur el _ hg]
  rw [← he] at hu
  simp only [List.getElem?_take, List.getElem?_drop] at hu
  split at hu
  · simpa using hu
  · cases hu
theorem Cells.keep {w w' : World} {g o : Nat} {us : List Value} (h : Cells w g o us) (hpos : 0 < us.length) (hs : ∀ j, j < us.length → spot w' g (o + j) = spot w g (o + j)) : Cells w' g o us := by
  obtain ⟨cur, el, hg, hl, he⟩ := h.at_
  obtain ⟨cur', hg', hsz, _⟩ := spot_cells (hs 0 hpos) hg
  refine ⟨cur', el, hg', by omega, ?_⟩
  rw [← he]
  apply List.ext_getElem?
  intro j
  have hlen : ((cur.toList.drop o).take us.length).length = us.length := by simp; omega
  simp only [List.getElem?_take, List.getElem?_drop, hlen]
  split
  · rename_i hj
    obtain ⟨c2, h2, _, h3⟩ := spot_cells (hs j hj) hg
    rw [hg'] at h2
    simp only [Option.some.injEq, Obj.cells.injEq] at h2
    obtain ⟨rfl, _⟩ := h2
    simpa using h3
  · rfl
structure VarOK (c : C) (x : Nat) (b : Var) : Prop where
  pos : 0 < b.ct.size
  at_ : ∃ us, Cells c.w (c.g x).1 (c.g x).2 us ∧ RCt c b.ct us
/-- Where a row lies. -/
structure RowAt (w : World) (fix : Bool) (e : TypeId) (sz : Nat) (v : Value) (n : Nat) (us : List Value) : Prop where
  len : us.length = n * sz
  at_ : (v = .slice none 0 0 ∧ n = 0) ∨ (fix = true ∧ n = 0 ∧ ∃ A cp, v = .slice A 0 cp ∧ cp ≤ maxLen) ∨ ∃ g o cap, v = .slice (some ⟨g, o, none⟩) n cap ∧ n ≤ cap ∧ cap ≤ maxLen ∧ Cells w g o us ∧ (fix = false → o = 0 ∧ ∃ cur, w.heap[g]? = some (.cells cur e (0, 0)) ∧ cur.size = cap * sz)
theorem RowAt.owns {w : World} {e : TypeId} {sz : Nat} {v : Value} {n : Nat} {us : List Value} (h : RowAt w false e sz v n us) : w.ownsRow 0 e sz v n us := by
  refine ⟨h.len, ?_⟩
  rcases h.at_ with h1 | ⟨h1, _⟩ | ⟨g, o, cap, rfl, h1, h2, h3, h4⟩
  · exact .inl h1
  · cases h1
  · obtain ⟨rfl, cur, hg, hs⟩ := h4 rfl
    refine .inr ⟨g, cap, cur, rfl, Nat.zero_le _, hg, h1, h2, hs, ?_⟩
    obtain ⟨cur2, el, hg2, _, he⟩ := h3.at_
    rw [hg] at hg2
    simp only [Option.some.injEq, Obj.cells.injEq] at hg2
    obtain ⟨rfl, _⟩ := hg2
    rw [← h.len]
    simpa using he
theorem RowAt.of_owns {w : World} {base : Nat} {e : TypeId} {sz : Nat} {v : Value} {n : Nat} {us : List Value} (h : w.ownsRow base e sz v n us) : RowAt w false e sz v n us := by
  refine ⟨h.1, ?_⟩
  rcases h.2 with h1 | ⟨g, cap, cur, rfl, _, hg, h1, h2, hs, he⟩
  · exact .inl h1
  · refine .inr (.inr ⟨g, 0, cap, rfl, h1, h2, ⟨cur, e, hg, ?_, ?_⟩, fun _ => ⟨rfl, cur, hg, hs⟩⟩)
    · rw [h.1, hs, Nat.zero_add]; exact Nat.mul_le_mul_right _ h1
    · rw [h.1]; simpa using he
structure RowOK (c : C) (r : Nat) (b : Row) : Prop where
  len : b.n.val = b.l.length
  at_ : ∃ us, RowAt c.w b.fix b.e b.t.size (c.r r) b.l.length us ∧ RpL (Rp c b.t) b.l us
def varF (c : C) (x n : Nat) : Foot := fun k o => k = (c.g x).1 ∧ (c.g x).2 ≤ o ∧ o < (c.g x).2 + n
def rowF (v : Value) (fix : Bool) (sz : Nat) : Foot := match v with
  | .slice (some a) n _ => fun k o => k = a.block ∧ (fix = false ∨ (a.off ≤ o ∧ o < a.off + n * sz))
  | _ => fun _ _ => False
def foot (c : C) (s : S) : Rt → Foot
  | .v x => fun k o => ∃ b, s.vars[x]? = some b ∧ b.live = true ∧ varF c x b.ct.size k o
  | .r r => fun k o => ∃ b, s.rows[r]? = some b ∧ b.live = true ∧ rowF (c.r r) b.fix b.t.size k o
  | .o x => fun k o => ∃ b, s.objs[x]? = some b ∧ b.live = true ∧ c.fo x k o
/-- A context for a world alone. -/
def C.of (w : World) (F : Foot) : C := ⟨w, F, fun _ => (0, 0), fun _ => undef, fun _ => undef, fun _ _ _ => False, 0, 0, 0⟩
/-- A row of objects, each with places of its own. -/
def SeqR {α : Type} (R : α → Value → Foot → Prop) : List α → List Value → Foot → Prop
  | [], us, _ => us = []
  | x :: l, us, D => ∃ u us' D1 D2, us = u :: us' ∧ R x u D1 ∧ SeqR R l us' D2 ∧ (∀ k o, D1 k o → D2 k o → False) ∧ ∀ k o, D1 k o ∨ D2 k o → D k o
/-- A kind of objects that lie in blocks of their own. -/
structure Bk where
  t : Tp
  R : t.T → World → Foot → Value → Foot → Prop
  keep : ∀ {e : t.T} {w w' : World} {F F' : Foot} {v : Value} {D : Foot}, (∀ k o, F k o → F' k o) → (∀ k o, D k o ∨ F k o → spot w' k o = spot w k o) → R e w F v D → R e w' F' v D
/-- Kinds of objects; variables that stand for ever. -/
structure Env where
  K : Nat → Kn
  B : Nat → Bk
  gl : List ((Nat × Nat) × Value)
/-- An object stands there. -/
def ObjR (E : Env) : Nat → OK → (t : Tp) → t.T → World → Foot → Value → Foot → Prop
  | 0, _, _, _, _, _, _, _ => False
  | f + 1, .one n, t, e, w, F, v, D => ∃ (us : List U) (lc : C) (h : t.eq (E.K n).t = true), us.map U.t = (E.K n).kn ∧ (E.K n).ok us (Tp.cast h e) ∧ lc.w = w ∧ lc.F = F ∧
      lc.nv = ((E.K n).st us).vars.length ∧ lc.nr = ((E.K n).st us).rows.length ∧ lc.nb = ((E.K n).st us).objs.length ∧ RV lc ((E.K n).retV us) v ∧ v.oneCell' = true ∧
      (∀ x b, ((E.K n).st us).vars[x]? = some b → b.live = true → VarOK lc x b) ∧ (∀ r b, ((E.K n).st us).rows[r]? = some b → b.live = true → RowOK lc r b) ∧
      (∀ x b, ((E.K n).st us).objs[x]? = some b → b.live = true → ObjR E f b.k b.t b.e w F (lc.ob x) (lc.fo x) ∧ (lc.ob x).oneCell' = true) ∧
      (∀ q q' k o, foot lc ((E.K n).st us) q k o → foot lc ((E.K n).st us) q' k o → q = q') ∧ ∀ q k o, foot lc ((E.K n).st us) q k o → D k o
  | f + 1, .aren n, .sl (.p .pt t), l, w, F, _, D => ∃ us D', SeqR (fun (x : (Int × Int) × t.T) u D1 => u = ptrU x.1 ∧ (0 ≤ x.1.1 ∧ 0 ≤ x.1.2) ∧ ObjR E f (.one n) t x.2 w F u D1) l us D' ∧ ∀ k o, D' k o → D k o
  | _ + 1, .sls ty ty', .sl (.sl t), l, w, F, v, D => ∃ us D', RowAt w false ty 1 v (List.length l) us ∧
      SeqR (fun (x : List t.T) u D1 => ∃ vs, RowAt w false ty' t.size u x.length vs ∧ RpL (Rp (C.of w F) t) x vs ∧ u.oneCell' = true ∧ ∀ k o, rowF u false t.size k o → D1 k o) l us D' ∧ (∀ k o, rowF v false 1 k o → D' k o → False) ∧ ∀ k o, rowF v false 1 k o ∨ D' k o → D k o
  | _ + 1, .it, .p .tx (.i .i64), e, w, F, v, D => ∃ k, v = .pointer (some ⟨k, 0, none⟩) ∧ 0 ≤ e.2 ∧ w.heap[k]? = some (.stringIter e.1 (Int.toNat e.2)) ∧ ∀ k' o, D k' o ↔ k' = k
  | _ + 1, .opq, _, _, _, _, _, _ => True
  | _ + 1, .blk n, t, e, w, F, v, D => ∃ h : t.eq (E.B n).t = true, (E.B n).R (Tp.cast h e) w F v D
  | _ + 1, _, _, _, _, _, _, _ => False
def ObjOK (E : Env) (w : World) (F : Foot) (b : Ob) (v : Value) (D : Foot) : Prop := (∃ f, ObjR E f b.k b.t b.e w F v D) ∧ (∀ k o, D k o → k < w.heap.size) ∧ v.oneCell' = true
def OK.still : OK → Bool
  | .one _ | .aren _ | .opq | .blk _ => true
  | .it => true
  | _ => false
/-- What a call may own of what was there, and what of it it may turn; where its roots lie that stay where they are. -/
structure Base where
  F : Foot
  fo : Rt → Foot
  kp : Foot
  g : List (Nat × Nat)
  r : List (Option Value)
  o : List (Option Value)
  lk : LK
  K : Env
/-- What a root may hold of what was there: rows what they held, others whatever came in. -/
def Base.own (fp : Base) : Rt → Foot
  | .r r => fp.fo (.r r)
  | _ => fun k o => ∃ q, fp.fo q k o
theorem Base.own_some {fp : Base} {q : Rt} {k o : Nat} (h : fp.own q k o) : ∃ q', fp.fo q' k o := by
  cases q with
  | r r => exact ⟨_, h⟩
  | v x => exact h
  | o x => exact h
theorem Base.own_self {fp : Base} {q : Rt} {k o : Nat} (h : fp.fo q k o) : fp.own q k o := by
  cases q with
  | r r => exact h
  | v x => exact ⟨_, h⟩
  | o x => exact ⟨_, h⟩
/-- Roots that may not be turned stay where they are. -/
structure Base.OK (fp : Base) : Prop where
  v : fp.lk.v ≤ fp.g.length
  r : ∀ r, r < fp.lk.r → ∃ v, fp.r[r]? = some (some v)
  o : fp.lk.o = 0
  gr : ∀ x k o, fp.lk.gr ≤ x → ¬ fp.fo (.r x) k o
  rl : ∀ r v, fp.r[r]? = some (some v) → r < fp.lk.gr
structure Holds (w0 : World) (fp : Base) (c : C) (s : S) (a : Act) : Prop where
  keeps : Keeps w0 c.w fp.kp
  eF : ∀ k o, fp.F k o → c.F k o
  eF2 : ∀ k o, c.F k o → fp.F k o ∨ w0.heap.size ≤ k
  lk : s.lk = fp.lk
  fpk : fp.OK
  tmps : RVs c s.tmps a.tmps.toList
  defers : a.defers = []
  nv : c.nv = s.vars.length
  nr : c.nr = s.rows.length
  nb : c.nb = s.objs.length
  vars : ∀ x b, s.vars[x]? = some b → b.live = true → VarOK c x b
  rows : ∀ r b, s.rows[r]? = some b → b.live = true → RowOK c r b
  objs : ∀ x b, s.objs[x]? = some b → b.live = true → ObjOK fp.K c.w c.F b (c.ob x) (c.fo x)
  disj : ∀ q q' k o, foot c s q k o → foot c s q' k o → q = q'
  mine : ∀ q k o, foot c s q k o → (w0.heap.size ≤ k ∨ fp.own q k o) ∧ ¬ c.F k o
  free : ∀ q k o, foot c s q k o → fp.lk.has q = false → w0.heap.size ≤ k ∨ fp.kp k o
  flt : ∀ k o, c.F k o → k < c.w.heap.size
  gl : ∀ p ∈ fp.K.gl, c.F p.1.1 p.1.2 ∧ c.w.cell? ⟨p.1.1, p.1.2, none⟩ = some p.2
  ag : ∀ x ad, fp.g[x]? = some ad → x < c.nv ∧ c.g x = ad
  ar : ∀ r v, fp.r[r]? = some (some v) → c.r r = v ∧ ∃ b, s.rows[r]? = some b ∧ b.live = true ∧ b.fix = true
  ao : ∀ x v, fp.o[x]? = some (some v) → c.ob x = v ∧ ∃ b, s.objs[x]? = some b ∧ b.live = true ∧ b.k.still = true

theorem VarOK.keep {c c' : C} {x : Nat} {b b' : Var} (h : VarOK c x b) (hs : ∀ k o, varF c x b.ct.size k o → spot c'.w k o = spot c.w k o) (hg : c'.g x = c.g x) (hsz : b'.ct.size = b.ct.size) (ht : ∀ us, RCt c b.ct us → RCt c' b'.ct us) : VarOK c' x b' := by
  obtain ⟨us, h1, h2⟩ := h.at_
  have hl := h2.length
  refine ⟨by rw [hsz]; exact h.pos, us, ?_, ht _ h2⟩
  rw [hg]
  exact h1.keep (by rw [hl]; exact h.pos) (fun j hj => hs _ _ ⟨rfl, by omega, by omega⟩)
theorem RowAt.keep {w w' : World} {fix : Bool} {e : TypeId} {sz : Nat} {v : Value} {n : Nat} {us : List Value} (h : RowAt w fix e sz v n us) (hz : 0 < sz) (hs : ∀ k o, rowF v fix sz k o → spot w' k o = spot w k o) : RowAt w' fix e sz v n us := by
  refine ⟨h.len, ?_⟩
  rcases h.at_ with h1 | h1 | ⟨g, o, cap, rfl, h1, h2, h3, h4⟩
  · exact .inl h1
  · exact .inr (.inl h1)
  · cases hf : fix with
    | false =>
      subst hf
      obtain ⟨rfl, cur, hg, hsz⟩ := h4 rfl
      have hb : w'.heap[g]? = w.heap[g]? := block_of_spots (fun o => hs _ _ ⟨rfl, .inl rfl⟩)
      refine .inr (.inr ⟨g, 0, cap, rfl, h1, h2, ?_, fun _ => ⟨rfl, cur, by rw [hb]; exact hg, hsz⟩⟩)
      obtain ⟨cur2, el, hg2, hl, he⟩ := h3.at_
      exact ⟨cur2, el, by rw [hb]; exact hg2, hl, he⟩
    | true =>
      subst hf
      by_cases hu : us = []
      · have hn : n = 0 := by
          have := h.len
          rw [hu] at this
          rcases Nat.eq_zero_or_pos n with q | q
          · exact q
          · have := Nat.mul_pos q hz; simp at *; omega
        subst hn
        exact .inr (.inl ⟨rfl, rfl, _, _, rfl, h2⟩)
      · refine .inr (.inr ⟨g, o, cap, rfl, h1, h2, h3.keep (List.length_pos_iff.2 hu) (fun j hj => hs _ _ ⟨rfl, .inr ⟨Nat.le_add_right _ _, ?_⟩⟩), fun h => by cases h⟩)
        rw [h.len] at hj
        simpa using hj
theorem RowOK.keep {c c' : C} {r : Nat} {b : Row} (h : RowOK c r b) (hs : ∀ k o, rowF (c.r r) b.fix b.t.size k o → spot c'.w k o = spot c.w k o) (hr : c'.r r = c.r r) (hle : c.Le0 c') : RowOK c' r b := by
  obtain ⟨us, h1, h2⟩ := h.at_
  exact ⟨h.len, us, by rw [hr]; exact h1.keep b.t.size_pos hs, h2.le hle⟩
theorem foot_lt {w0 : World} {fp : Base} {c : C} {s : S} {a : Act} (h : Holds w0 fp c s a) {q : Rt} {k o : Nat} (hf : foot c s q k o) : k < c.w.heap.size := by
  cases q with
  | v x =>
    obtain ⟨b, hb, hl, hk⟩ := hf
    obtain ⟨us, h1, _⟩ := (h.vars x b hb hl).at_
    rw [hk.1]; exact h1.lt
  | o x =>
    obtain ⟨b, hb, hl, hk⟩ := hf
    exact (h.objs x b hb hl).2.1 k o hk
  | r r =>
    obtain ⟨b, hb, hl, hk⟩ := hf
    obtain ⟨us, h1, h2⟩ := (h.rows r b hb hl).at_
    rcases h1.at_ with ⟨e, _⟩ | ⟨hf, hn, A, cp, e, _⟩ | ⟨g, o', cap, e, _, _, h3, _⟩
    · rw [e] at hk; exact hk.elim
    · rw [e, hf] at hk
      cases A with
      | none => exact hk.elim
      | some ad =>
        simp only [rowF] at hk
        rcases hk.2 with q | q
        · cases q
        · omega
    · rw [e] at hk
      obtain ⟨rfl, _⟩ := hk
      exact h3.lt
theorem SeqR.mono {α : Type} {R R' : α → Value → Foot → Prop} : ∀ {l : List α} {us : List Value} {D : Foot}, (∀ x u D1, (∀ k o, D1 k o → D k o) → R x u D1 → R' x u D1) → SeqR R l us D → SeqR R' l us D
  | [], us, D, _, h => h
  | x :: l, us, D, hr, h => by
    obtain ⟨u, us', D1, D2, e, h1, h2, h3, h4⟩ := h
    exact ⟨u, us', D1, D2, e, hr x u D1 (fun k o hk => h4 k o (.inl hk)) h1, SeqR.mono (fun x u D' hd hx => hr x u D' (fun k o hk => h4 k o (.inr (hd k o hk))) hx) h2, h3, h4⟩
theorem ObjR.keep {E : Env} {w w' : World} {F F' : Foot} (hF : ∀ k o, F k o → F' k o) : ∀ {f : Nat} {k : OK} {t : Tp} {e : t.T} {v : Value} {D : Foot}, (∀ k o, D k o ∨ F k o → spot w' k o = spot w k o) → ObjR E f k t e w F v D → ObjR E f k t e w' F' v D := by
  intro f
  induction f with
  | zero => intro k t e v D _ h; exact h.elim
  | succ f ih =>
    intro k t e v D hs h
    have le0 : (C.of w F).Le0 (C.of w' F') := ⟨hF, fun k o hk => hs k o (.inr hk)⟩
    cases k with
    | one n =>
      obtain ⟨us, lc, h0, h1, h2, rfl, rfl, h6, h7, h8, h9, h10, h11, h12, h13, h14, h15⟩ := h
      have le : lc.Le { lc with w := w', F := F' } := { F := hF, spot := fun k o hk => hs k o (.inr hk), g := fun _ _ => rfl, nv := Nat.le_refl _, r := fun _ _ => rfl, nr := Nat.le_refl _, ob := fun _ _ => rfl, nb := Nat.le_refl _ }
      refine ⟨us, { lc with w := w', F := F' }, h0, h1, h2, rfl, rfl, h6, h7, h8, RV.le le _ _ h9, h10, fun x b hb hl => ?_, fun r b hb hl => ?_, fun x b hb hl => ?_, h14, h15⟩
      · refine (h11 x b hb hl).keep (fun k o hk => hs k o (.inl (h15 (.v x) k o ⟨b, hb, hl, hk⟩))) rfl rfl (fun us hr => ?_)
        cases hct : b.ct with
        | pk t e => rw [hct] at hr; exact Rp.le le.toLe0 hr
        | ls l => rw [hct] at hr; exact RVs.le le _ _ hr
      · exact (h12 r b hb hl).keep (fun k o hk => hs k o (.inl (h15 (.r r) k o ⟨b, hb, hl, hk⟩))) rfl le.toLe0
      · exact ⟨ih (fun k o hk => hs k o (hk.imp (fun q => h15 (.o x) k o ⟨b, hb, hl, q⟩) id)) (h13 x b hb hl).1, (h13 x b hb hl).2⟩
    | opq => trivial
    | blk n =>
      obtain ⟨h1, h2⟩ := h
      exact ⟨h1, (E.B n).keep hF hs h2⟩
    | aren n =>
      cases t with
      | sl t =>
        cases t with
        | p t1 t =>
          cases t1 with
          | pt =>
            obtain ⟨us, D', h2, h4⟩ := h
            refine ⟨us, D', SeqR.mono (fun x u D1 hd hx => ?_) h2, h4⟩
            exact ⟨hx.1, hx.2.1, ih (k := .one n) (t := t) (e := x.2) (fun k o hk => hs k o (hk.imp (fun q => h4 k o (hd k o q)) id)) hx.2.2⟩
          | _ => exact h.elim
        | _ => exact h.elim
      | _ => exact h.elim
    | sls ty ty' =>
      cases t with
      | sl t =>
        cases t with
        | sl t =>
          obtain ⟨us, D', h1, h2, h3, h4⟩ := h
          refine ⟨us, D', h1.keep Nat.one_pos (fun k o hk => hs k o (.inl (h4 k o (.inl hk)))), SeqR.mono (fun x u D1 hd hx => ?_) h2, h3, h4⟩
          obtain ⟨vs, q1, q2, q3, q4⟩ := hx
          exact ⟨vs, q1.keep t.size_pos (fun k o hk => hs k o (.inl (h4 k o (.inr (hd k o (q4 k o hk)))))), RpL.le le0 q2, q3, q4⟩
        | _ => exact h.elim
      | _ => exact h.elim
    | it =>
      cases t with
      | p t1 t2 =>
        cases t1 with
        | tx =>
          cases t2 with
          | i kd =>
            cases kd with
            | i64 =>
              obtain ⟨k0, h1, h2, h3, h4⟩ := h
              refine ⟨k0, h1, h2, ?_, h4⟩
              have e := hs k0 0 (.inl ((h4 k0 0).2 rfl))
              unfold spot at e
              rw [h3] at e
              cases hw : w'.heap[k0]? with
              | none => rw [hw] at e; cases e
              | some ob =>
                rw [hw] at e
                cases ob <;> simp_all
            | _ => exact h.elim
          | _ => exact h.elim
        | _ => exact h.elim
      | _ => exact h.elim
theorem ObjOK.keep {E : Env} {w w' : World} {F F' : Foot} {b : Ob} {v : Value} {D : Foot} (h : ObjOK E w F b v D) (hF : ∀ k o, F k o → F' k o) (hs : ∀ k o, D k o ∨ F k o → spot w' k o = spot w k o) (hsz : w.heap.size ≤ w'.heap.size)   : ObjOK E w' F' b v D := by
  obtain ⟨⟨f, h1⟩, h2, h3⟩ := h
  exact ⟨⟨f, h1.keep hF hs⟩, fun k o hk => Nat.lt_of_lt_of_le (h2 k o hk) hsz, h3⟩
/-- One step of the world: what lies elsewhere stays. -/
theorem Holds.turn {w0 : World} {fp : Base} {c c' : C} {s s' : S} {a a' : Act} {D : Foot} (h : Holds w0 fp c s a) (hk' : Keeps c.w c'.w D) (hD : ∀ k o, D k o → k < c.w.heap.size → (w0.heap.size ≤ k ∨ fp.kp k o) ∧ ¬ c.F k o) (hF : c'.F = c.F)
    (htm : RVs c' s'.tmps a'.tmps.toList) (hde : a'.defers = []) (hnv : c'.nv = s'.vars.length) (hnr : c'.nr = s'.rows.length)
    (hv : ∀ x b, s'.vars[x]? = some b → b.live = true → VarOK c' x b) (hr : ∀ r b, s'.rows[r]? = some b → b.live = true → RowOK c' r b)
    (hf : ∀ q k o, foot c' s' q k o → foot c s q k o ∨ c.w.heap.size ≤ k)
    (hn : ∀ q q' k o, c.w.heap.size ≤ k → foot c' s' q k o → foot c' s' q' k o → q = q')
    (hga : ∀ x, x < c.nv → x < c'.nv ∧ c'.g x = c.g x) (hra : ∀ r b, s.rows[r]? = some b → b.live = true → b.fix = true → c'.r r = c.r r ∧ ∃ b', s'.rows[r]? = some b' ∧ b'.live = true ∧ b'.fix = true)
    (hlk : s'.lk = s.lk) (hob : s'.objs = s.objs) (hco : c'.ob = c.ob) (hcf : c'.fo = c.fo) (hcn : c'.nb = c.nb) (hDo : ∀ x k o, D k o → ¬ foot c s (.o x) k o) : Holds w0 fp c' s' a' := by
  refine { fpk := h.fpk, lk := hlk.trans h.lk, eF := fun k o hk => by rw [hF]; exact h.eF k o hk, eF2 := fun k o hk => h.eF2 k o (by rw [← hF]; exact hk), nb := by rw [hcn, hob]; exact h.nb,
           objs := fun x b hb hl => by
             rw [hob] at hb
             rw [hF, hco, hcf]
             have ho := h.objs x b hb hl
             refine ho.keep (fun _ _ h => h) (fun k o hk => ?_) hk'.size
             rcases hk with q | q
             · exact hk'.spot k o (ho.2.1 k o q) (fun hd => hDo x k o hd ⟨b, hb, hl, q⟩)
             · exact hk'.spot k o (h.flt k o q) (fun hd => (hD k o hd (h.flt k o q)).2 q),
           ao := fun x v hx => by
             obtain ⟨q1, b, q2, q3⟩ := h.ao x v hx
             exact ⟨by rw [hco]; exact q1, b, by rw [hob]; exact q2, q3⟩,
           ag := fun x ad hx => by
             obtain ⟨q1, q2⟩ := h.ag x ad hx
             obtain ⟨q3, q4⟩ := hga x q1
             exact ⟨q3, q4.trans q2⟩,
           ar := fun r v hrv => by
             obtain ⟨q1, b, q2, q3, q4⟩ := h.ar r v hrv
             obtain ⟨q5, q6⟩ := hra r b q2 q3 q4
             exact ⟨q5.trans q1, q6⟩,
           keeps := ⟨hk'.os.trans h.keeps.os, hk'.tape.trans h.keeps.tape, hk'.output.trans h.keeps.output, Nat.le_trans h.keeps.size hk'.size, fun k o hlt hnf => ?_, fun k cs e f hk0 => by
             obtain ⟨c1, q1, q2⟩ := h.keeps.shape k cs e f hk0
             obtain ⟨c2, q3, q4⟩ := hk'.shape k c1 e f q1
             exact ⟨c2, q3, q4.trans q2⟩, Nat.le_trans h.keeps.drawn hk'.drawn⟩, tmps := htm, defers := hde, nv := hnv, nr := hnr, vars := hv, rows := hr, disj := ?_, mine := ?_, free := fun q k o h1 hq => by
             rcases hf q k o h1 with p1 | p1
             · exact h.free q k o p1 hq
             · exact .inl (Nat.le_trans h.keeps.size p1),
           flt := fun k o hf => Nat.lt_of_lt_of_le (h.flt k o (by rw [← hF]; exact hf)) hk'.size,
           gl := fun p hp => by
             obtain ⟨g1, g2⟩ := h.gl p hp
             exact ⟨by rw [hF]; exact g1, cell_of_spot (hk'.spot p.1.1 p.1.2 (h.flt _ _ g1) (fun hd => (hD p.1.1 p.1.2 hd (h.flt _ _ g1)).2 g1)) g2⟩ }
  · refine (hk'.spot k o (Nat.lt_of_lt_of_le hlt h.keeps.size) (fun hd => ?_)).trans (h.keeps.spot k o hlt hnf)
    rcases (hD k o hd (Nat.lt_of_lt_of_le hlt h.keeps.size)).1 with q | q
    · omega
    · exact hnf q
  · intro q q' k o h1 h2
    rcases hf q k o h1 with p1 | p1
    · rcases hf q' k o h2 with p2 | p2
      · exact h.disj q q' k o p1 p2
      · exact hn q q' k o p2 h1 h2
    · exact hn q q' k o p1 h1 h2
  · intro q k o h1
    rcases hf q k o h1 with p1 | p1
    · rw [hF]; exact h.mine q k o p1
    · rw [hF]
      exact ⟨.inl (Nat.le_trans h.keeps.size p1), fun hf => by have := h.flt k o hf; omega⟩
/-- What is leant on stays. -/
theorem Holds.le0 {w0 : World} {fp : Base} {c c' : C} {s : S} {a : Act} {D : Foot} (h : Holds w0 fp c s a) (hk : Keeps c.w c'.w D) (hD : ∀ k o, D k o → k < c.w.heap.size → (w0.heap.size ≤ k ∨ fp.kp k o) ∧ ¬ c.F k o) (hF : c'.F = c.F) : c.Le0 c' :=
  ⟨fun k o hf => by rw [hF]; exact hf, fun k o hf => hk.spot k o (h.flt k o hf) (fun hd => (hD k o hd (h.flt k o hf)).2 hf)⟩

/-! ### Values at hand -/
theorem RV.ofCell {c : C} (v : Value) : RV c (ofCell v) v := by cases v <;> simp [Fx.ofCell, RV, I.val, B.val]
theorem RVs.ofCells {c : C} : ∀ (l : List Value), RVs c (l.map Fx.ofCell) l
  | [] => .nil
  | v :: l => .cons (RV.ofCell v) (RVs.ofCells l)
theorem RV.ofVal {c : C} (v : Value) : RV c (ofVal v) v := by
  cases v with
  | agg cs => simp only [Fx.ofVal, RV]; exact ⟨_, rfl, RVs.ofCells _⟩
  | _ => simp only [Fx.ofVal]; exact RV.ofCell _
theorem RV.ev {c : C} {s : S} {a : Act} (h : RVs c s.tmps a.tmps.toList) (x : Operand) : RV c (ev s x) (a.eval x) := by
  cases x with
  | tmp t =>
    have := h.getD t undef
    simpa [Fx.ev, Act.eval, Array.getD_eq_getD_getElem?, List.getD] using this
  | const v => exact RV.ofVal v
  | global g => simp [Fx.ev, Act.eval, RV]
  | func f => simp only [Fx.ev, Act.eval, RV]; exact ⟨_, rfl, rfl⟩
theorem oneCell_of {c : C} : ∀ {v : V} {u : Value}, one v = true → RV c v u → u.oneCell' = true
  | .i k n, u, _, h => by simp only [RV] at h; subst h; rfl
  | .b x, u, _, h => by simp only [RV] at h; subst h; rfl
  | .v v, u, h1, h => by simp only [RV] at h; subst h; exact h1
  | .lp x o, u, _, h => by simp only [RV] at h; rw [h.2]; rfl
  | .ro t n l, u, _, h => by simp only [RV] at h; exact h.2.one u (by simp)
  | .rp t l i j, u, _, h => by simp only [RV] at h; obtain ⟨_, _, g, o, vs, e, _⟩ := h; rw [e]; rfl
  | .op r sz i j, u, _, h => by simp only [RV] at h; obtain ⟨_, g, o, n, cp, _, _, _, e⟩ := h; rw [e]; rfl
  | .vw r sz lo n, u, _, h => by simp only [RV] at h; obtain ⟨_, A, m, cp, A', cp', _, _, _, _, _, e, _⟩ := h; rw [e]; rfl
  | .fn f l, u, _, h => by simp only [RV] at h; obtain ⟨us, e, _⟩ := h; rw [e]; rfl
  | .own r, u, _, h => by simp only [RV] at h; rw [h.2.1]; exact h.2.2
  | .obj r, u, _, h => by simp only [RV] at h; rw [h.2.1]; exact h.2.2
  | .pt e, u, _, h => by simp only [RV] at h; subst h; exact ptrU_one _
  | .bk r sz k n, u, _, h => by simp only [RV] at h; obtain ⟨_, _, _, A, cap, _, _, e, _⟩ := h; rw [e]; rfl
  | .x _ _, u, h1, _ => by simp [one] at h1
  | .agg l, u, h1, _ => by simp [one] at h1
  | .tup l, u, h1, _ => by simp [one] at h1
  | .junk, u, h1, _ => by simp [one] at h1
theorem RVs.one {c : C} : ∀ {l : List V} {us : List Value}, l.all Fx.one = true → RVs c l us → ∀ x ∈ us, x.oneCell' = true
  | [], us, _, h => by simp only [RVs] at h; subst h; simp
  | v :: l, us, h1, h => by
    simp only [RVs] at h
    obtain ⟨u, us', rfl, hu, hs⟩ := h
    simp only [List.all_cons, Bool.and_eq_true] at h1
    intro x hx
    rcases List.mem_cons.1 hx with rfl | hx
    · exact oneCell_of h1.1 hu
    · exact RVs.one h1.2 hs x hx
theorem RV.cells {c : C} {v : V} {u : Value} {l : List V} (h : RV c v u) (hl : Fx.cells v = some l) : RVs c l u.cells.toList ∧ ∀ x ∈ u.cells.toList, x.oneCell' = true := by
  cases v with
  | agg l' =>
    simp only [RV] at h
    obtain ⟨us, rfl, hr⟩ := h
    simp only [Fx.cells] at hl
    split at hl
    · rename_i h1
      obtain rfl := Option.some.inj hl
      exact ⟨hr, RVs.one h1 hr⟩
    · cases hl
  | x t e =>
    simp only [RV] at h
    obtain ⟨us, rfl, hr⟩ := h
    simp only [Fx.cells, Option.some.injEq] at hl
    subst hl
    exact ⟨Tp.cells_sound hr, hr.one⟩
  | tup _ | junk => simp [Fx.cells, Fx.one] at hl
  | _ =>
    simp only [Fx.cells] at hl
    split at hl
    · rename_i h1
      obtain rfl := Option.some.inj hl
      have ho := oneCell_of h1 h
      have : u.cells = #[u] := by cases u <;> first | rfl | simp [Value.oneCell'] at ho
      rw [this]
      exact ⟨.cons h .nil, by simpa using ho⟩
    · cases hl
/-! ### Data out of values -/
theorem asD1_sound {c : C} : ∀ {t : Tp} {v : V} {u : Value} {d : t.T}, RV c v u → asD1 t v = some d → Rp c t d [u]
  | .i k, v, u, d, h, hd => by
    simp only [asD1] at hd
    split at hd <;> try cases hd
    · rename_i k' n
      split at hd
      · rename_i hk
        obtain rfl := eq_of_beq hk
        obtain rfl := Option.some.inj hd
        simp only [RV] at h; subst h; rfl
      · cases hd
  | .bo, v, u, d, h, hd => by
    simp only [asD1] at hd
    split at hd <;> try cases hd
    simp only [RV] at h; subst h; rfl
  | .tx, v, u, d, h, hd => by
    simp only [asD1] at hd
    split at hd <;> try cases hd
    simp only [RV] at h; subst h; rfl
  | .pt, v, u, d, h, hd => by
    simp only [asD1] at hd
    split at hd <;> try cases hd
    all_goals simp only [RV] at h; subst h; rfl
  | .p a b, v, u, d, h, hd => by simp [asD1] at hd
  | .sl t, v, u, d, h, hd => by
    simp only [asD1] at hd
    split at hd <;> try cases hd
    · rename_i t' n l
      split at hd
      · rename_i ht
        obtain rfl := Option.some.inj hd
        simp only [RV] at h
        obtain rfl := Tp.of_eq ht
        exact h.2
      · cases hd
    · simp only [RV] at h; subst h
      exact ⟨none, 0, rfl, Nat.le_refl _, Nat.zero_le _, .inl rfl⟩
theorem asDs_one {c : C} {t : Tp} {v : V} {l l' : List V} {us : List Value} {d : t.T} (h : RVs c (v :: l) us) (hd : (asD1 t v).map (fun x => (x, l)) = some (d, l')) (ht : t.size = 1) : Rp c t d (us.take t.size) ∧ RVs c l' (us.drop t.size) := by
  obtain ⟨x, hx, e⟩ := Option.map_eq_some_iff.1 hd
  obtain ⟨rfl, rfl⟩ := Prod.mk.inj e
  simp only [RVs] at h
  obtain ⟨u, us', rfl, hu, hs⟩ := h
  rw [ht]
  exact ⟨by simpa using asD1_sound hu hx, by simpa using hs⟩
theorem asDs_sound {c : C} : ∀ {t : Tp} {l l' : List V} {us : List Value} {d : t.T}, RVs c l us → asDs t l = some (d, l') → Rp c t d (us.take t.size) ∧ RVs c l' (us.drop t.size)
  | .p a b, l, l', us, d, h, hd => by
    simp only [asDs] at hd
    split at hd
    case h_2 => cases hd
    rename_i x l1 h1
    split at hd
    case h_2 => cases hd
    rename_i y l2 h2
    obtain ⟨rfl, rfl⟩ := Prod.mk.inj (Option.some.inj hd)
    obtain ⟨p1, q1⟩ := asDs_sound h h1
    obtain ⟨p2, q2⟩ := asDs_sound q1 h2
    refine ⟨⟨_, _, ?_, p1, p2⟩, ?_⟩
    · simp only [Tp.size]
      rw [List.take_add]
    · simpa only [Tp.size, List.drop_drop] using q2
  | .i k, v :: l, l', us, d, h, hd => asDs_one h (by simpa only [asDs] using hd) rfl
  | .bo, v :: l, l', us, d, h, hd => asDs_one h (by simpa only [asDs] using hd) rfl
  | .tx, v :: l, l', us, d, h, hd => asDs_one h (by simpa only [asDs] using hd) rfl
  | .pt, v :: l, l', us, d, h, hd => asDs_one h (by simpa only [asDs] using hd) rfl
  | .sl t, v :: l, l', us, d, h, hd => asDs_one h (by simpa only [asDs] using hd) rfl
  | .opt t, v :: l, l', us, d, h, hd => asDs_one h (by simpa only [asDs] using hd) rfl
  | .opt _, [], _, _, _, _, hd | .i _, [], _, _, _, _, hd | .bo, [], _, _, _, _, hd | .tx, [], _, _, _, _, hd | .sl _, [], _, _, _, _, hd | .pt, [], _, _, _, _, hd => by simp [asDs] at hd
theorem asDl_sound {c : C} {t : Tp} {l : List V} {us : List Value} {d : t.T} (h : RVs c l us) (hd : asDl t l = some d) : Rp c t d us := by
  unfold asDl at hd
  split at hd
  · rename_i x hx
    obtain rfl := Option.some.inj hd
    obtain ⟨h1, h2⟩ := asDs_sound h hx
    simp only [RVs] at h2
    have : us.take t.size = us := List.take_of_length_le (by have := congrArg List.length h2; simp at this; omega)
    rwa [this] at h1
  · cases hd
theorem asD_sound {c : C} {t : Tp} {v : V} {u : Value} {d : t.T} (h : RV c v u) (hd : asD t v = some d) : Rp c t d u.cells.toList := by
  have key : ∀ v, (if t.isP then none else asD1 t v) = some d → RV c v u → Rp c t d u.cells.toList := fun v hd h => by
    split at hd
    · cases hd
    · rename_i hp
      have h1 := asD1_sound h hd
      have : u.cells.toList = [u] := by
        have h2 := h1.one u (by simp)
        have : u.cells = #[u] := by cases u <;> first | rfl | simp [Value.oneCell'] at h2
        rw [this]
      rwa [this]
  unfold asD at hd
  split at hd
  · rename_i t' e
    split at hd
    case isFalse => cases hd
    split at hd
    · rename_i ht
      obtain rfl := Option.some.inj hd
      simp only [RV] at h
      obtain ⟨us, rfl, hr⟩ := h
      exact hr.cast ht
    · cases hd
  · rename_i l
    split at hd
    · simp only [RV] at h
      obtain ⟨us, rfl, hr⟩ := h
      exact asDl_sound hr hd
    · cases hd
  · exact key _ hd h
theorem toV_sound {c : C} {t : Tp} {d : t.T} {us : List Value} {ti : TI} (h : Rp c t d us) (ht : t.isP = aggTy ti.d) : RV c (toV t d) (shapeU ti us) := by
  cases t with
  | i k => simp only [Rp] at h; subst h; simp [shapeU, ← ht, Tp.isP, toV, RV, I.val]
  | bo => simp only [Rp] at h; subst h; simp [shapeU, ← ht, Tp.isP, toV, RV, B.val]
  | tx => simp only [Rp] at h; subst h; simp [shapeU, ← ht, Tp.isP, toV, RV]
  | pt => simp only [Rp] at h; subst h; simp [shapeU, ← ht, Tp.isP, toV, RV]
  | p a b =>
    simp only [shapeU, ← ht, Tp.isP, toV, RV, if_true]
    exact ⟨_, rfl, h⟩
  | sl t =>
    have h0 := h
    simp only [Rp] at h
    obtain ⟨A, cp, rfl, _⟩ := h
    simp only [shapeU, ← ht, Tp.isP, toV, RV, I.val]
    exact ⟨trivial, h0⟩
  | opt t => simp [toV, RV]
theorem shapeD_sound {c : C} {ti : TI} {l : List V} {us : List Value} (ht : ∀ q, ti.tp = some q → q.isP = aggTy ti.d) (h : RVs c l us) : RV c (shapeD ti l) (shapeU ti us) := by
  unfold shapeD
  split
  · rename_i q hq
    split
    · rename_i hp
      split
      · rename_i d hd
        have := asDl_sound h hd
        simp only [shapeU, ← ht q hq, hp, if_true, RV]
        exact ⟨_, rfl, this⟩
      · exact shape_RV h
    · exact shape_RV h
  · exact shape_RV h
end Go.Fx
