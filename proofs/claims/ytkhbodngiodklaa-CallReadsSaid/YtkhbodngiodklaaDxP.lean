/- What the machine tells of one operation is so. -/
import Derived.Test.YtkhbodngiodklaaDxM
set_option linter.all false
namespace Go.Dx
open Go Go.RowKit

def aggTy : Ty → Bool
  | .struct _ | .arr _ _ => true
  | _ => false
def aggD : TypeDesc → Bool
  | .struct _ | .array _ _ => true
  | _ => false
def descOK (P : Program) (t : TypeId) : Ty → Prop
  | .int k => P.underlying t = some (.int k)
  | .bool => P.underlying t = some .bool
  | .str => P.underlying t = some .string
  | .slice e => P.underlying t = some (.slice e)
  | .arr n e => P.underlying t = some (.array n e)
  | .ptr e => P.underlying t = some (.pointer e)
  | .struct fs => P.underlying t = some (.struct (P.fieldsOf t)) ∧ (P.fieldsOf t).toList.map (fun f => (f.offset, f.type)) = fs ∧ ((P.fieldsOf t).toList.all fun f => (P.info? f.type).any (·.size != 0)) = true
  | .other => True
/-- The cells' kinds of a type whose values may be compared. -/
def eqFs (P : Program) (f : TypeId → Option (List Kd)) : Nat → List Field → Option (List Kd)
  | _, [] => some []
  | off, fd :: fs => match f fd.type, eqFs P f (off + (P.info? fd.type).elim 0 (·.size)) fs with
    | some k, some ks => if fd.name != "_" && fd.offset == off && (P.info? fd.type).any (fun i => i.size == k.length) && k.length != 0 then some (k ++ ks) else none
    | _, _ => none
def eqB (P : Program) : Nat → TypeId → Option (List Kd)
  | 0, _ => none
  | d + 1, t => match P.underlying t with
    | some (.int k) => some [.i k]
    | some .bool => some [.b]
    | some .string => some [.s]
    | some (.struct fs) => if P.stoodInHeld t then none else eqFs P (eqB P d) 0 fs.toList
    | _ => none
structure TIOK (P : Program) (ti : TI) (t : TypeId) : Prop where
  info : (P.info? t).map (fun i => (i.zero, i.size, i.bytes)) = some (some ti.zero, ti.size, ti.bytes)
  zsz : ti.zero.cells.size = ti.size
  agg : (P.underlying t).map aggD = some (aggTy ti.d)
  one : aggTy ti.d = false → ti.size = 1
  eq : ti.eqk ≠ [] → eqB P 6 t = some ti.eqk ∧ P.eqGuardType P.depth t = false
structure TabOK (P : Program) (T : TypeId → TI) : Prop where
  desc : ∀ t, descOK P t (T t).d
  ok : ∀ t, (T t).ok = true → TIOK P (T t) t

section
variable {P : Program} {T : TypeId → TI} (hT : TabOK P T)
include hT

theorem TabOK.info {t : TypeId} (h : (T t).ok = true) : ∃ i, P.info? t = some i ∧ i.zero = some (T t).zero ∧ i.size = (T t).size ∧ i.bytes = (T t).bytes := info_parts (hT.ok t h).info
theorem TabOK.run_size {t : TypeId} (h : (T t).ok = true) (w : World) : (sizeOf t).run P w = .ok (T t).size w := by
  obtain ⟨i, hi, _, hs, _⟩ := hT.info h
  simp [sizeOf, typeInfo, hi, hs]
theorem TabOK.run_zero {t : TypeId} (h : (T t).ok = true) (w : World) : (zeroValue t).run P w = .ok (T t).zero w := by
  obtain ⟨i, hi, hz, _, _⟩ := hT.info h
  simp [zeroValue, typeInfo, hi, hz]
theorem TabOK.run_agg {t : TypeId} (h : (T t).ok = true) (w : World) : (isAgg t).run P w = .ok (aggTy (T t).d) w := by
  have := (hT.ok t h).agg
  cases hu : P.underlying t with
  | none => simp [hu] at this
  | some d =>
    simp [hu] at this
    unfold isAgg
    rw [Sem.run_bind, run_underlying hu w]
    rw [← this]
    cases d <;> simp [aggD]
end

def shapeU (ti : TI) (us : List Value) : Value := if aggTy ti.d then .agg us.toArray else us.getD 0 undef
theorem shape_RV {c : C} {ti : TI} {vs : List V} {us : List Value} (h : RVs c vs us) : RV c (shapeV ti vs) (shapeU ti us) := by
  unfold shapeV shapeU
  cases ti.d <;> simp only [aggTy, if_true, Bool.false_eq_true, if_false] <;> first | exact h.getD 0 undef | (simp only [RV]; exact ⟨_, rfl, by simpa using h⟩)

section
variable {P : Program} {T : TypeId → TI} (hT : TabOK P T)
include hT
theorem TabOK.run_loadVar {t : TypeId} (h : (T t).ok = true) (w : World) (a : Addr) (us : List Value) (hl : us.length = (T t).size) (hc : ∀ j v, us[j]? = some v → w.cell? (a.add j) = some v) :
    (loadVar t a).run P w = .ok (shapeU (T t) us) w := by
  unfold loadVar
  rw [Sem.run_bind, hT.run_agg h w]
  simp only [Result.andThen_ok]
  unfold shapeU
  cases hg : aggTy (T t).d with
  | true =>
    simp only [if_true, Sem.run_bind, hT.run_size h w, Result.andThen_ok]
    rw [← hl, run_loadCells_list (P := P) w a us hc]
    rfl
  | false =>
    simp only [Bool.false_eq_true, if_false]
    have h1 := (hT.ok t h).one hg
    obtain ⟨u, hu⟩ : ∃ u, us = [u] := by
      match us, hl.trans h1 with
      | [u], _ => exact ⟨u, rfl⟩
    subst hu
    have := hc 0 u rfl
    simp only [Addr.add_zero'] at this
    simp [this]
theorem TabOK.run_storeVar {t : TypeId} (h : (T t).ok = true) (w : World) (g o : Nat) (e : TypeId) (cur : Array Value) (u : Value) (hh : w.heap[g]? = some (.cells cur e (0, 0)))
    (hs : u.cells.size = (T t).size) (hl : o + u.cells.size ≤ cur.size) (h1 : ∀ x ∈ u.cells.toList, x.oneCell' = true) :
    (storeVar t ⟨g, o, none⟩ u).run P w = .ok () (w.setRow g (cur.toList.take o ++ u.cells.toList ++ cur.toList.drop (o + u.cells.size)).toArray) := by
  have := run_storeCells_at P g o e u.cells.toList 0 cur w hh (by simpa using hl) h1
  unfold storeVar
  simp only [Sem.run_bind, hT.run_size h w, Result.andThen_ok, hs, ne_eq, not_true_eq_false, if_false]
  simpa [hs] using this
end

theorem oneCell_of {c : C} : ∀ {v : V} {u : Value}, one v = true → RV c v u → u.oneCell' = true
  | .i k n, u, _, h => by simp only [RV, RC] at h; subst h; rfl
  | .b x, u, _, h => by simp only [RV, RC] at h; subst h; rfl
  | .v v, u, h1, h => by simp only [RV, RC] at h; subst h; exact h1
  | .lp x o, u, _, h => by simp only [RV, RC] at h; rw [h.2]; rfl
  | .ro n sz get, u, _, h => by simp only [RV, RC, roR] at h; obtain ⟨A, cp, e, _⟩ := h; rw [e]; rfl
  | .rp n sz get i j, u, _, h => by simp only [RV, RC] at h; obtain ⟨A, e, _⟩ := h; rw [e]; rfl
  | .op r sz i j, u, _, h => by simp only [RV] at h; obtain ⟨_, g, n, cp, _, _, _, e⟩ := h; rw [e]; rfl
  | .vw r sz lo n, u, _, h => by simp only [RV] at h; obtain ⟨_, A, m, cp, A', cp', _, _, _, _, _, e, _⟩ := h; rw [e]; rfl
  | .fn f l, u, _, h => by simp only [RV] at h; obtain ⟨us, e, _⟩ := h; rw [e]; rfl
  | .agg l, u, h1, _ => by simp [one] at h1
  | .tup l, u, h1, _ => by simp [one] at h1
  | .junk, u, h1, _ => by simp [one] at h1
  | .own r, u, _, h => by simp only [RV] at h; rw [h.2.1]; exact h.2.2

def Need.ok : Need → Prop
  | .idx i n => 0 ≤ i ∧ i < n
  | .le a b => a ≤ b
  | .room n bytes => 0 ≤ n ∧ n * bytes ≤ 140737488355328
  | .nonneg a => 0 ≤ a
  | .ne a b => a ≠ b
def needsOK : List Need → Prop
  | [] => True
  | n :: ns => n.ok ∧ needsOK ns

structure VarOK (w0 : World) (fp : Nat → Prop) (c : C) (x : Nat) (b : Var) : Prop where
  at_ : ∃ us : List Value, c.w.heap[c.g x]? = some (.cells us.toArray b.t (0, 0)) ∧ RVs c b.cells us
  mine : w0.heap.size ≤ c.g x ∨ fp (c.g x)
  notF : ¬ c.F (c.g x)
structure RowOK (w0 : World) (fp : Nat → Prop) (c : C) (r : Nat) (b : Row) : Prop where
  at_ : ∃ us : List Value, c.w.ownsRow 0 b.e b.sz (c.r r) b.n.val.toNat us ∧ RCs c (b.ct.cells b.n.val.toNat b.sz) us ∧ ∀ u ∈ us, u.oneCell' = true
  nonneg : 0 ≤ b.n.val
  mine : ∀ k, (c.r r).ownBlock = some k → (w0.heap.size ≤ k ∨ fp k) ∧ ¬ c.F k ∧ ∀ x, x < c.nv → c.g x ≠ k
structure Holds (w0 : World) (fp : Nat → Prop) (c : C) (s : S) (a : Act) : Prop where
  kept : ∀ k, k < w0.heap.size → ¬ fp k → c.w.heap[k]? = w0.heap[k]?
  size : w0.heap.size ≤ c.w.heap.size
  os : c.w.os = w0.os
  tape : c.w.tape = w0.tape
  output : c.w.output = w0.output
  tmps : RVs c s.tmps a.tmps.toList
  defers : a.defers = []
  nv : c.nv = s.vars.length
  nr : c.nr = s.rows.length
  vars : ∀ x b, s.vars[x]? = some b → VarOK w0 fp c x b
  vdist : ∀ x y, x < c.nv → y < c.nv → c.g x = c.g y → x = y
  rows : ∀ r b, s.rows[r]? = some b → b.live = true → RowOK w0 fp c r b
  rdist : ∀ r r' b b', s.rows[r]? = some b → s.rows[r']? = some b' → b.live = true → b'.live = true → r ≠ r' → ∀ k, (c.r r).ownBlock = some k → (c.r r').ownBlock ≠ some k
  flt : ∀ b, c.F b → b < c.w.heap.size

/-- What is lent for a call: the blocks of all rows too. -/
def lent (c : C) (s : S) (b : Nat) : Prop := c.F b ∨ ∃ (r : Nat) (row : Row), s.rows[r]? = some row ∧ row.live = true ∧ (c.r r).ownBlock = some b

theorem RV.ofCell {c : C} (v : Value) : RV c (ofCell v) v := by cases v <;> simp [Dx.ofCell, RV, RC, I.val, B.val]
theorem RVs.ofCells {c : C} : ∀ (l : List Value), RVs c (l.map Dx.ofCell) l
  | [] => .nil
  | v :: l => .cons (RV.ofCell v) (RVs.ofCells l)
theorem RV.ofVal {c : C} (v : Value) : RV c (ofVal v) v := by
  cases v with
  | agg cs => simp only [Dx.ofVal, RV]; exact ⟨_, rfl, RVs.ofCells _⟩
  | _ => simp only [Dx.ofVal]; exact RV.ofCell _
theorem RV.ev {c : C} {s : S} {a : Act} (h : RVs c s.tmps a.tmps.toList) (x : Operand) : RV c (ev s x) (a.eval x) := by
  cases x with
  | tmp t =>
    have := h.getD t undef
    simpa [Dx.ev, Act.eval, Array.getD_eq_getD_getElem?, List.getD] using this
  | const v => exact RV.ofVal v
  | global g => simp [Dx.ev, Act.eval, RV, RC]
  | func f => simp only [Dx.ev, Act.eval, RV]; exact ⟨_, rfl, rfl⟩

theorem RVs.one {c : C} : ∀ {l : List V} {us : List Value}, l.all Dx.one = true → RVs c l us → ∀ x ∈ us, x.oneCell' = true
  | [], us, _, h => by simp only [RVs] at h; subst h; simp
  | v :: l, us, h1, h => by
    simp only [RVs] at h
    obtain ⟨u, us', rfl, hu, hs⟩ := h
    simp only [List.all_cons, Bool.and_eq_true] at h1
    intro x hx
    rcases List.mem_cons.1 hx with rfl | hx
    · exact oneCell_of h1.1 hu
    · exact RVs.one h1.2 hs x hx
theorem RV.cells {c : C} {v : V} {u : Value} {l : List V} (h : RV c v u) (hl : Dx.cells v = some l) : RVs c l u.cells.toList ∧ ∀ x ∈ u.cells.toList, x.oneCell' = true := by
  cases v with
  | agg l' =>
    simp only [RV] at h
    obtain ⟨us, rfl, hr⟩ := h
    simp only [Dx.cells] at hl
    split at hl
    · rename_i h1
      obtain rfl := Option.some.inj hl
      exact ⟨hr, RVs.one h1 hr⟩
    · cases hl
  | tup _ | junk => simp [Dx.cells, Dx.one] at hl
  | _ =>
    simp only [Dx.cells] at hl
    split at hl
    · rename_i h1
      obtain rfl := Option.some.inj hl
      have ho := oneCell_of h1 h
      have : u.cells = #[u] := by cases u <;> first | rfl | simp [Value.oneCell'] at ho
      rw [this]
      exact ⟨.cons h .nil, by simpa using ho⟩
    · cases hl

/-! ### The steps that leave the world alone, and those that do not -/
section
variable {w0 : World} {fp : Nat → Prop} {c : C} {s : S} {a : Act}

theorem Holds.put (h : Holds w0 fp c s a) {v : V} {u : Value} (hv : RV c v u) (d : Option Nat) : Holds w0 fp c (s.put d v) (a.put d u) := by
  cases d with
  | none => exact h
  | some d => exact { h with
      tmps := by
        have := RVs.set d h.tmps hv
        simpa [S.put, Act.put] using this
      nv := h.nv, nr := h.nr, vars := h.vars, rows := h.rows, rdist := h.rdist, defers := h.defers }

theorem Holds.needs (h : Holds w0 fp c s a) (ns : List Need) : Holds w0 fp c { s with needs := ns } a :=
  { h with nv := h.nv, nr := h.nr, vars := h.vars, rows := h.rows, rdist := h.rdist, tmps := h.tmps }

theorem Holds.var_lt (h : Holds w0 fp c s a) {x : Nat} {b : Var} (hb : s.vars[x]? = some b) : x < c.nv := by
  rw [h.nv]; exact (List.getElem?_eq_some_iff.1 hb).1
theorem Holds.row_lt (h : Holds w0 fp c s a) {x : Nat} {b : Row} (hb : s.rows[x]? = some b) : x < c.nr := by
  rw [h.nr]; exact (List.getElem?_eq_some_iff.1 hb).1

theorem ownsRow_base0 {w : World} {base e size n : Nat} {v : Value} {xs : List Value} (h : w.ownsRow base e size v n xs) : w.ownsRow 0 e size v n xs := by
  obtain ⟨h1, h2⟩ := h
  refine ⟨h1, ?_⟩
  rcases h2 with h2 | ⟨g, cap, cur, hv, _, r⟩
  · exact .inl h2
  · exact .inr ⟨g, cap, cur, hv, Nat.zero_le _, r⟩
theorem own_blk_lt {w : World} {base e size n : Nat} {v : Value} {xs : List Value} (h : w.ownsRow base e size v n xs) {k : Nat} (hk : v.ownBlock = some k) : k < w.heap.size := (h.lt k hk).2

/-- A new variable. -/
def C.newVar (c : C) (t : TypeId) (us : List Value) : C :=
  { c with w := c.w.alloc (.cells us.toArray t), g := fun x => if x = c.nv then c.w.heap.size else c.g x, nv := c.nv + 1 }
theorem C.newVar_le (h : ∀ b, c.F b → b < c.w.heap.size) (t : TypeId) (us : List Value) : c.Le (c.newVar t us) where
  F := fun _ h => h
  cell := fun a ha => World.cell?_of_block (heap_alloc_old c.w _ (h _ ha))
  g := fun x hx => by simp only [C.newVar]; rw [if_neg (by omega)]
  nv := Nat.le_succ _
  r := fun _ _ => rfl
  nr := Nat.le_refl _
theorem Holds.newVar (h : Holds w0 fp c s a) (t : TypeId) {l : List V} {us : List Value} (hl : RVs c l us) :
    Holds w0 fp (c.newVar t us) { s with vars := s.vars ++ [⟨t, l⟩] } a := by
  have le := C.newVar_le h.flt t us
  have old : ∀ k, k < c.w.heap.size → (c.newVar t us).w.heap[k]? = c.w.heap[k]? := fun k hk => heap_alloc_old c.w _ hk
  have hsz : (c.newVar t us).w.heap.size = c.w.heap.size + 1 := by simp [C.newVar]
  have gold : ∀ x, x < c.nv → (c.newVar t us).g x = c.g x := le.g
  have gnew : (c.newVar t us).g c.nv = c.w.heap.size := by simp [C.newVar]
  have gblt : ∀ x, x < c.nv → c.g x < c.w.heap.size := fun x hx => by
    obtain ⟨b, hb⟩ : ∃ b, s.vars[x]? = some b := ⟨_, List.getElem?_eq_getElem (by rw [← h.nv]; exact hx)⟩
    obtain ⟨us', hu, _⟩ := (h.vars x b hb).at_
    exact (Array.getElem?_eq_some_iff.1 hu).1
  refine { kept := fun k hk hf => (old k (Nat.lt_of_lt_of_le hk h.size)).trans (h.kept k hk hf), size := by rw [hsz]; exact Nat.le_succ_of_le h.size, os := h.os, tape := h.tape, output := h.output, tmps := RVs.le le _ _ h.tmps, defers := h.defers, nv := by simp [C.newVar, h.nv], nr := h.nr, vars := ?_, vdist := ?_, rows := ?_, rdist := h.rdist, flt := fun b hb => by rw [hsz]; exact Nat.lt_succ_of_lt (h.flt b hb) }
  · intro x b hb
    have hnv := h.nv
    simp only [List.getElem?_append] at hb
    split at hb
    · rename_i hx
      have hx' : x < c.nv := by omega
      have hv := h.vars x b hb
      obtain ⟨us', hu, hr⟩ := hv.at_
      exact ⟨⟨us', by rw [gold x hx', old _ (gblt x hx')]; exact hu, RVs.le le _ _ hr⟩, by rw [gold x hx']; exact hv.mine, by rw [gold x hx']; exact hv.notF⟩
    · rename_i hx
      have hxe : x = c.nv := by
        have := (List.getElem?_eq_some_iff.1 hb).1
        simp at this; omega
      subst hxe
      rw [h.nv] at hb
      simp at hb
      subst hb
      refine ⟨⟨us, by rw [gnew]; exact heap_alloc_new c.w _, RVs.le le _ _ hl⟩, by rw [gnew]; exact .inl h.size, by rw [gnew]; exact fun hf => Nat.lt_irrefl _ (h.flt _ hf)⟩
  · intro x y hx hy e
    have hx1 : x < c.nv + 1 := hx
    have hy1 : y < c.nv + 1 := hy
    by_cases hx' : x = c.nv
    · by_cases hy' : y = c.nv
      · omega
      · rw [hx', gnew, gold y (by omega)] at e
        have := gblt y (by omega)
        omega
    · by_cases hy' : y = c.nv
      · rw [hy', gnew, gold x (by omega)] at e
        have := gblt x (by omega)
        omega
      · rw [gold x (by omega), gold y (by omega)] at e
        exact h.vdist x y (by omega) (by omega) e
  · intro r b hb hl'
    have hr := h.rows r b hb hl'
    obtain ⟨us', ho, hc, h1⟩ := hr.at_
    refine ⟨⟨us', ho.alloc _, RCs.le le.toLe0 _ _ hc, h1⟩, hr.nonneg, fun k hk => ?_⟩
    have hm := hr.mine k hk
    refine ⟨hm.1, hm.2.1, fun x hx => ?_⟩
    have hx1 : x < c.nv + 1 := hx
    by_cases hx' : x = c.nv
    · rw [hx', gnew]
      have := own_blk_lt ho hk
      omega
    · rw [gold x (by omega)]
      exact hm.2.2 x (by omega)

/-- A new row. -/
def C.newRow (c : C) (v : Value) (w' : World) : C := { c with w := w', r := fun x => if x = c.nr then v else c.r x, nr := c.nr + 1 }
theorem Holds.newRow (h : Holds w0 fp c s a) (b : Row) {v : Value} {w' : World} {us : List Value} (hg : c.w.grownBy w' none) (ho : w'.ownsRow c.w.heap.size b.e b.sz v b.n.val.toNat us) (h1 : v.oneCell' = true)
    (hn : 0 ≤ b.n.val) (hc : RCs c (b.ct.cells b.n.val.toNat b.sz) us) (hone : ∀ u ∈ us, u.oneCell' = true) : c.Le (c.newRow v w') ∧ Holds w0 fp (c.newRow v w') { s with rows := s.rows ++ [b] } a := by
  have old : ∀ k, k < c.w.heap.size → w'.heap[k]? = c.w.heap[k]? := fun k hk => hg.block k hk (by simp)
  have le : c.Le (c.newRow v w') :=
    { F := fun _ h => h, cell := fun a ha => World.cell?_of_block (old _ (h.flt _ ha)), g := fun _ _ => rfl, nv := Nat.le_refl _,
      r := fun x hx => by simp only [C.newRow]; rw [if_neg (by omega)], nr := Nat.le_succ _ }
  have rold : ∀ x, x < c.nr → (c.newRow v w').r x = c.r x := le.r
  have rnew : (c.newRow v w').r c.nr = v := by simp [C.newRow]
  have gblt : ∀ x, x < c.nv → c.g x < c.w.heap.size := fun x hx => by
    obtain ⟨b, hb⟩ : ∃ b, s.vars[x]? = some b := ⟨_, List.getElem?_eq_getElem (by rw [← h.nv]; exact hx)⟩
    obtain ⟨us', hu, _⟩ := (h.vars x b hb).at_
    exact (Array.getElem?_eq_some_iff.1 hu).1
  refine ⟨le, { kept := fun k hk hf => (old k (Nat.lt_of_lt_of_le hk h.size)).trans (h.kept k hk hf), size := Nat.le_trans h.size hg.size, os := hg.os.trans h.os, tape := hg.tape.trans h.tape, output := hg.output.trans h.output, tmps := RVs.le le _ _ h.tmps, defers := h.defers, nv := h.nv, nr := by simp [C.newRow, h.nr], vars := ?_, vdist := h.vdist, rows := ?_, rdist := ?_, flt := fun b hb => Nat.lt_of_lt_of_le (h.flt b hb) hg.size }⟩
  · intro x b hb
    have hv := h.vars x b hb
    obtain ⟨us', hu, hr⟩ := hv.at_
    exact ⟨⟨us', by rw [show (c.newRow v w').w.heap[(c.newRow v w').g x]? = c.w.heap[c.g x]? from old _ (gblt x (h.var_lt hb))]; exact hu, RVs.le le _ _ hr⟩, hv.mine, hv.notF⟩
  · intro r b' hb hl'
    have hnr := h.nr
    simp only [List.getElem?_append] at hb
    split at hb
    · rename_i hx
      have hx' : r < c.nr := by omega
      have hr := h.rows r b' hb hl'
      obtain ⟨us', ho', hc', h1'⟩ := hr.at_
      refine ⟨⟨us', by rw [rold r hx']; exact ho'.kept hg (by cases hv : (c.r r).ownBlock <;> simp), RCs.le le.toLe0 _ _ hc', h1'⟩, hr.nonneg, fun k hk => ?_⟩
      rw [rold r hx'] at hk
      exact hr.mine k hk
    · rename_i hx
      have hxe : r = c.nr := by
        have := (List.getElem?_eq_some_iff.1 hb).1
        simp at this; omega
      subst hxe
      rw [h.nr] at hb
      simp at hb
      subst hb
      have hlo : ∀ k, v.ownBlock = some k → c.w.heap.size ≤ k := fun k hk => (ho.lt k hk).1
      refine ⟨⟨us, by rw [rnew]; exact ownsRow_base0 ho, RCs.le le.toLe0 _ _ hc, hone⟩, hn, fun k hk => ?_⟩
      rw [rnew] at hk
      have := hlo k hk
      exact ⟨.inl (Nat.le_trans h.size this), fun hf => by have := h.flt k hf; omega, fun x hx => by have := gblt x hx; show c.g x ≠ k; omega⟩
  · intro r r' b1 b2 hb1 hb2 hl1 hl2 hne k hk
    have hnr := h.nr
    have hlo : ∀ k, v.ownBlock = some k → c.w.heap.size ≤ k := fun k hk => (ho.lt k hk).1
    have olt : ∀ r b, s.rows[r]? = some b → b.live = true → ∀ k, (c.r r).ownBlock = some k → k < c.w.heap.size := fun r b hb hl k hk => by
      obtain ⟨us', ho', _⟩ := (h.rows r b hb hl).at_
      exact own_blk_lt ho' hk
    simp only [List.getElem?_append] at hb1 hb2
    split at hb1 <;> split at hb2
    · rename_i q1 q2
      rw [rold r (by omega)] at hk
      rw [rold r' (by omega)]
      exact h.rdist r r' b1 b2 hb1 hb2 hl1 hl2 hne k hk
    · rename_i q1 q2
      have : r' = c.nr := by have := (List.getElem?_eq_some_iff.1 hb2).1; simp at this; omega
      subst this
      rw [rold r (by omega)] at hk
      rw [rnew]
      intro hk'
      have := olt r b1 hb1 hl1 k hk
      have := hlo k hk'
      omega
    · rename_i q1 q2
      have : r = c.nr := by have := (List.getElem?_eq_some_iff.1 hb1).1; simp at this; omega
      subst this
      rw [rnew] at hk
      rw [rold r' (by omega)]
      intro hk'
      have := olt r' b2 hb2 hl2 k hk'
      have := hlo k hk
      omega
    · rename_i q1 q2
      have := (List.getElem?_eq_some_iff.1 hb1).1
      have := (List.getElem?_eq_some_iff.1 hb2).1
      simp at *
      omega
end

end Go.Dx
