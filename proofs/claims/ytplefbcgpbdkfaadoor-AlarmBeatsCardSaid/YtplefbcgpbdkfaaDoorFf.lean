/- Values that are built, rows that are laid and appended to, numbers, lengths. -/
import Derived.Test.YtplefbcgpbdkfaaDoorFe
set_option linter.all false
namespace Go.Fx
open Go Go.RowKit

theorem fold_splice (p : Nat) : ∀ (m : List Value) (k : Nat) (z : Array Value), p + k + m.length ≤ z.size →
    (m.zipIdx k).foldl (fun cs (x : Value × Nat) => cs.setIfInBounds (p + x.2) x.1) z = (z.toList.take (p + k) ++ m ++ z.toList.drop (p + k + m.length)).toArray
  | [], k, z, h => by simp
  | x :: m, k, z, h => by
    simp only [List.zipIdx_cons, List.foldl_cons]
    simp only [List.length_cons] at h
    rw [fold_splice p m (k + 1) _ (by simp; omega)]
    congr 1
    rw [Array.toList_setIfInBounds]
    have hlt : p + k < z.toList.length := by simp; omega
    rw [show p + (k + 1) = p + k + 1 from by omega]
    rw [List.take_set, List.drop_set_of_lt (by omega), List.take_succ_eq_append_getElem hlt]
    rw [List.set_append_right _ _ (by simp; omega)]
    simp [show min (p + k) z.size = p + k from by simp at hlt; omega, Nat.add_comm, Nat.add_left_comm, Nat.add_assoc]
theorem fillParts_sound {c : C} (place : Nat → Nat) (pl : Nat → Option (Nat × Nat)) : ∀ (parts : List (Nat × V)) (us : List (Nat × Value)) (z : List V) (zu : Array Value) (l : List V),
    fillParts place z parts = some l → RVs c z zu.toList → us.length = parts.length →
    (∀ (k : Nat) (p : Nat × V) (q : Nat × Value), parts[k]? = some p → us[k]? = some q → q.1 = p.1 ∧ RV c p.2 q.2 ∧ ∃ m, cells p.2 = some m ∧ pl p.1 = some (place p.1, m.length)) →
    ∃ lu, Instr.fill pl zu us = some lu ∧ RVs c l lu.toList ∧ lu.size = zu.size
  | [], us, z, zu, l, h, hz, hl, _ => by
    have : us = [] := List.eq_nil_of_length_eq_zero (by simpa using hl)
    subst this
    simp only [fillParts, Option.some.injEq] at h
    subst h
    exact ⟨zu, rfl, hz, rfl⟩
  | (i, v) :: r, us, z, zu, l, h, hz, hl, hp => by
    match us, hl with
    | (i', u) :: us', hl =>
      obtain ⟨e1, hr, m, hm, hpl⟩ := hp 0 (i, v) (i', u) rfl rfl
      dsimp only at e1 hr hm hpl
      subst e1
      simp only [fillParts, hm] at h
      split at h
      · rename_i hfit
        obtain ⟨hc, _⟩ := hr.cells hm
        have hlen : u.cells.size = m.length := by simpa using hc.length
        have hzl : zu.size = z.length := by simpa using hz.length
        have hfold : (u.cells.zipIdx.foldl (fun cs (x : Value × Nat) => cs.setIfInBounds (place i' + x.2) x.1) zu) = (zu.toList.take (place i') ++ u.cells.toList ++ zu.toList.drop (place i' + u.cells.size)).toArray := by
          have := fold_splice (place i') u.cells.toList 0 zu (by simp; omega)
          rw [← Array.foldl_toList, Array.toList_zipIdx]
          simpa using this
        have hz' : RVs c (splice z (place i') m) (zu.toList.take (place i') ++ u.cells.toList ++ zu.toList.drop (place i' + u.cells.size)) := by
          unfold splice
          rw [hlen]
          exact ((hz.take _).append hc).append (hz.drop _)
        obtain ⟨lu, h1, h2, h3⟩ := fillParts_sound place pl r us' (splice z (place i') m) (zu.toList.take (place i') ++ u.cells.toList ++ zu.toList.drop (place i' + u.cells.size)).toArray l h (by simpa using hz') (by simpa using hl)
          (fun k p q hk hq => hp (k + 1) p q (by simpa using hk) (by simpa using hq))
        refine ⟨lu, ?_, h2, ?_⟩
        · simp only [Instr.fill, hpl]
          rw [if_neg (by simp [hlen]; omega)]
          exact (congrArg (fun x => Instr.fill pl x us') hfold).trans h1
        · rw [h3]; simp; omega
      · cases h
theorem run_mapM_list {α β : Type} {P : Program} {w : World} (f : α → Sem β) (g : α → β) : ∀ (l : List α), (∀ x ∈ l, (f x).run P w = .ok (g x) w) → (l.mapM f).run P w = .ok (l.map g) w
  | [], _ => by simp
  | x :: l, h => by
    simp only [List.mapM_cons, Sem.run_bind, h x (by simp), Result.andThen_ok, run_mapM_list f g l (fun y hy => h y (by simp [hy]))]
    simp
theorem run_mapM {α β : Type} {P : Program} {w : World} (f : α → Sem β) (g : α → β) (l : Array α) (h : ∀ x ∈ l.toList, (f x).run P w = .ok (g x) w) : (l.mapM f).run P w = .ok (l.map g) w := by
  rw [Array.mapM_eq_mapM_toList]
  simp only [Sem.run_map, run_mapM_list f g l.toList h, Result.andThen_ok]
  congr 1
  apply Array.ext'
  simp

theorem flat_length {α : Type} (sz : Nat) (get : Nat → Nat → α) : ∀ n, ((List.range n).flatMap fun i => (List.range sz).map (get i)).length = n * sz
  | 0 => by simp
  | n + 1 => by
    rw [List.range_succ, List.flatMap_append, List.length_append, flat_length sz get n]
    simp [Nat.add_mul]
theorem flat_get {α : Type} (sz : Nat) (get : Nat → Nat → α) : ∀ n i q, i < n → q < sz → ((List.range n).flatMap fun i => (List.range sz).map (get i))[i * sz + q]? = some (get i q)
  | 0, i, q, h, _ => by omega
  | n + 1, i, q, h, hq => by
    rw [List.range_succ, List.flatMap_append]
    by_cases hi : i < n
    · have hle : (i + 1) * sz ≤ n * sz := Nat.mul_le_mul_right sz hi
      rw [Nat.add_mul] at hle
      rw [List.getElem?_append_left (by rw [flat_length]; omega)]
      exact flat_get sz get n i q hi hq
    · obtain rfl : i = n := by omega
      rw [List.getElem?_append_right (by rw [flat_length]; omega), flat_length]
      simp [hq]
theorem zeros_flat (zero : Array Value) (len size : Nat) (hz : zero.size = size) (hs : 0 < size) :
    ((Array.range (len * size)).map (fun i => zero[i % zero.size]!)).toList = (List.range len).flatMap fun _ => (List.range size).map fun j => zero.getD j default := by
  apply List.ext_getElem?
  intro t
  by_cases ht : t < len * size
  · have h1 := flat_get size (fun _ j => zero.getD j default) len (t / size) (t % size) (Nat.div_lt_of_lt_mul (by rw [Nat.mul_comm]; exact ht)) (Nat.mod_lt _ hs)
    rw [show t / size * size + t % size = t from by rw [Nat.mul_comm]; exact Nat.div_add_mod t size] at h1
    rw [h1]
    have hm : t % size < zero.size := by rw [hz]; exact Nat.mod_lt _ hs
    have e1 : zero[t % size]! = zero.getD (t % size) default := by simp [Array.getD, hm]
    subst hz
    rw [← e1]
    simp [ht]
  · rw [List.getElem?_eq_none (by simp; omega), List.getElem?_eq_none (by rw [flat_length]; omega)]
theorem zero_list (zero : Array Value) (size : Nat) (hz : zero.size = size) : (List.range size).map (fun j => zero.getD j default) = zero.toList := by
  apply List.ext_getElem?
  intro t
  by_cases ht : t < size
  · simp [ht, Array.getD, hz]
  · rw [List.getElem?_eq_none (by simp; omega), List.getElem?_eq_none (by simp; omega)]

theorem RpL.replicate {α : Type} {R : α → List Value → Prop} {x : α} {us : List Value} (h : R x us) : ∀ n : Nat, RpL R (List.replicate n x) ((List.range n).flatMap fun _ => us)
  | 0 => by simp [RpL]
  | n + 1 => by
    rw [List.range_succ, List.flatMap_append, List.replicate_succ']
    refine RpL.append (RpL.replicate h n) ?_
    simp only [List.flatMap_cons, List.flatMap_nil, List.append_nil]
    exact ⟨us, [], by simp, h, rfl⟩
theorem fill_one {pl : Nat → Option (Nat × Nat)} {zu : Array Value} {i off n : Nat} {u : Value} {r : List (Nat × Value)} (hpl : pl i = some (off, n)) (hn : u.cells.size = n) (hfit : off + n ≤ zu.size) :
    Instr.fill pl zu ((i, u) :: r) = Instr.fill pl (zu.toList.take off ++ u.cells.toList ++ zu.toList.drop (off + n)).toArray r := by
  have hfold : (u.cells.zipIdx.foldl (fun cs (x : Value × Nat) => cs.setIfInBounds (off + x.2) x.1) zu) = (zu.toList.take off ++ u.cells.toList ++ zu.toList.drop (off + n)).toArray := by
    have := fold_splice off u.cells.toList 0 zu (by simp; omega)
    rw [← Array.foldl_toList, Array.toList_zipIdx]
    simpa [hn] using this
  simp only [Instr.fill, hpl]
  rw [if_neg (by simp [hn]; omega)]
  exact congrArg (fun x => Instr.fill pl x r) hfold
theorem fillF_sound {c : C} {T : TypeId → TI} {fs : List (Nat × TypeId)} {q : Tp} {pl : Nat → Option (Nat × Nat)} (hpl : ∀ i off ft tt, fs[i]? = some (off, ft) → (T ft).ok = true → (T ft).tp = some tt → pl i = some (off, tt.size)) : ∀ (parts : List (Nat × V)) (us : List (Nat × Value)) (z : q.T) (zu : Array Value) (e : q.T),
    fillF T fs q z parts = some e → Rp c q z zu.toList → us.length = parts.length → (∀ (k : Nat) (p : Nat × V) (r : Nat × Value), parts[k]? = some p → us[k]? = some r → r.1 = p.1 ∧ RV c p.2 r.2) →
    ∃ lu, Instr.fill pl zu us = some lu ∧ Rp c q e lu.toList
  | [], us, z, zu, e, h, hz, hl, _ => by
    have : us = [] := List.eq_nil_of_length_eq_zero (by simpa using hl)
    subst this
    simp only [fillF, Option.some.injEq] at h
    subst h
    exact ⟨zu, rfl, hz⟩
  | (i, v) :: r, us, z, zu, e, h, hz, hl, hp => by
    match us, hl with
    | (i', u) :: us', hl =>
      obtain ⟨e1, hr⟩ := hp 0 (i, v) (i', u) rfl rfl
      dsimp only at e1 hr
      subst e1
      simp only [fillF] at h
      split at h
      case h_2 => cases h
      rename_i off ft hft
      split at h
      case h_2 => cases h
      rename_i tt htt
      split at h
      case isFalse => cases h
      rename_i hok
      split at h
      case h_2 => cases h
      rename_i d hd
      split at h
      case h_2 => cases h
      rename_i z' hz'
      have hd' := asD_sound hr hd
      have hdl := hd'.length
      simp only [Array.length_toList] at hdl
      obtain ⟨q1, q2⟩ := Tp.upd_sound hd' hz hz'
      have hzl := hz.length
      simp only [Array.length_toList] at hzl
      rw [fill_one (hpl _ _ _ _ hft hok htt) hdl (by omega)]
      exact fillF_sound hpl r us' z' _ e h (by simpa using q1) (by simpa using hl) (fun k p q hk hq => hp (k + 1) p q (by simpa using hk) (by simpa using hq))
theorem fillD_sound {c : C} {t : Tp} : ∀ (parts : List (Nat × V)) (us : List (Nat × Value)) (z : List t.T) (zu : Array Value) (l : List t.T),
    fillD t z parts = some l → RpL (Rp c t) z zu.toList → us.length = parts.length → (∀ (k : Nat) (p : Nat × V) (r : Nat × Value), parts[k]? = some p → us[k]? = some r → r.1 = p.1 ∧ RV c p.2 r.2) →
    ∃ lu, Instr.fill (fun i => some (i * t.size, t.size)) zu us = some lu ∧ RpL (Rp c t) l lu.toList ∧ l.length = z.length
  | [], us, z, zu, l, h, hz, hl, _ => by
    have : us = [] := List.eq_nil_of_length_eq_zero (by simpa using hl)
    subst this
    simp only [fillD, Option.some.injEq] at h
    subst h
    exact ⟨zu, rfl, hz, rfl⟩
  | (i, v) :: r, us, z, zu, l, h, hz, hl, hp => by
    match us, hl with
    | (i', u) :: us', hl =>
      obtain ⟨e1, hr⟩ := hp 0 (i, v) (i', u) rfl rfl
      dsimp only at e1 hr
      subst e1
      simp only [fillD] at h
      split at h
      case h_2 => cases h
      rename_i d hd
      split at h
      case isFalse => cases h
      rename_i hi
      have hd' := asD_sound hr hd
      have hdl := hd'.length
      simp only [Array.length_toList] at hdl
      have hzl := hz.len
      simp only [Array.length_toList] at hzl
      have hle : (i' + 1) * t.size ≤ z.length * t.size := Nat.mul_le_mul_right _ hi
      rw [Nat.add_mul] at hle
      rw [fill_one rfl hdl (by omega)]
      obtain ⟨lu, p1, p2, p3⟩ := fillD_sound r us' (z.set i' d) (zu.toList.take (i' * t.size) ++ u.cells.toList ++ zu.toList.drop (i' * t.size + t.size)).toArray l h (hz.set (fun _ _ h => h.length) i' hi hd') (by simpa using hl) (fun k p q hk hq => hp (k + 1) p q (by simpa using hk) (by simpa using hq))
      exact ⟨lu, p1, p2, by rw [p3]; simp⟩

section
variable {P : Program} {T : TypeId → TI} (hT : TabOK P T) {w0 : World} {fp : Base} {c : C} {s : S} {a : Act}

theorem parts_len (parts : Array (Nat × Operand)) (s : S) (a : Act) : ((parts.map fun (i, x) => (i, a.eval x)).toList).length = (evs s parts).length := by simp [evs]
theorem parts_get (hH : RVs c s.tmps a.tmps.toList) (parts : Array (Nat × Operand)) (k : Nat) (p : Nat × V) (q : Nat × Value) (hp : (evs s parts)[k]? = some p) (hq : ((parts.map fun (i, x) => (i, a.eval x)).toList)[k]? = some q) :
    q.1 = p.1 ∧ RV c p.2 q.2 ∧ p ∈ evs s parts := by
  have hm := List.mem_of_getElem? hp
  simp only [evs, Array.toList_map, List.getElem?_map, Option.map_eq_some_iff] at hp hq
  obtain ⟨⟨i, x⟩, h1, rfl⟩ := hp
  obtain ⟨⟨i', x'⟩, h2, rfl⟩ := hq
  rw [h1] at h2
  obtain ⟨rfl, rfl⟩ := Prod.mk.inj (Option.some.inj h2)
  exact ⟨rfl, RV.ev hH x, hm⟩
theorem zero_cells {ti : TI} {z : List V} (hz : ofVal ti.zero = .agg z) : RVs c z ti.zero.cells.toList := by
  have := RV.ofVal (c := c) ti.zero
  rw [hz] at this
  cases hzz : ti.zero with
  | agg cs =>
    rw [hzz] at this hz
    simp only [RV] at this
    obtain ⟨us, e, hr⟩ := this
    obtain rfl := Value.agg.inj e
    exact hr
  | _ => rw [hzz] at hz; simp [ofVal, ofCell] at hz
include hT
theorem build_sound (h : Holds w0 fp c s a) {t : TypeId} {parts : Array (Nat × Operand)} {v : V} {s' : S} (hop : opBuild T s t (evs s parts) = .ok v s') :
    s' = s ∧ Tells P w0 fp c s s a (.free []) (fun w => (Instr.build t (parts.map fun (i, x) => (i, a.eval x))).run P w) v := by
  have hd := hT.desc t
  unfold opBuild at hop
  split at hop
  case isFalse => cases hop
  rename_i hok
  have hpg := parts_get (c := c) h.tmps parts
  split at hop
  · rename_i fs z hdt hz
    rw [hdt] at hd
    obtain ⟨hd1, hd2, hd3⟩ := hd
    subst hd2
    have hzr := zero_cells (c := c) hz
    have hplaces : ∀ w' : World, ((P.fieldsOf t).mapM fun (f : Field) => do pure (f.offset, ← sizeOf f.type)).run P w' = .ok ((P.fieldsOf t).map fun (f : Field) => (f.offset, (P.cellsOf f.type))) w' := by
      intro w'
      refine run_mapM _ _ _ (fun f hf => ?_)
      have := List.all_eq_true.1 hd3 f hf
      simp only [Option.any_eq_true_iff_get] at this
      obtain ⟨h1, _⟩ := this
      simp [Sem.run_bind, run_sizeOf w' (Option.some_get h1).symm]
    have hpl : ∀ i off ft n, ((P.fieldsOf t).toList.map fun f => (f.offset, f.type))[i]? = some (off, ft) → (T ft).ok = true → (T ft).size = n → ((P.fieldsOf t).map fun f => (f.offset, (P.cellsOf f.type)))[i]? = some (off, n) := fun i off ft n hf hk hn => by
      rw [List.getElem?_map, Option.map_eq_some_iff] at hf
      obtain ⟨f, hf, e⟩ := hf
      obtain ⟨rfl, rfl⟩ := Prod.mk.inj e
      obtain ⟨i0, hi0, _, hs, _⟩ := hT.info hk
      have hf' : (P.fieldsOf t)[i]? = some f := by simpa using hf
      rw [Array.getElem?_map, hf']
      simp [Program.cellsOf, hi0, hs, hn]
    have fin : ∀ {lu : Array Value} {v : V}, Instr.fill (fun i => ((P.fieldsOf t).map fun f => (f.offset, (P.cellsOf f.type)))[i]?) (T t).zero.cells (parts.map fun (i, x) => (i, a.eval x)).toList = some lu → RV c v (.agg lu) → Tells P w0 fp c s s a (.free []) (fun w => (Instr.build t (parts.map fun (i, x) => (i, a.eval x))).run P w) v := fun {lu v} h1 h2 => by
      refine h.still (u := .agg lu) ?_ h2
      intro w' _
      simp only [Instr.build, Sem.run_bind, hT.run_zero hok, Result.andThen_ok, run_underlying hd1 w', hplaces, h1, Sem.run_pure]
    have byC : buildCells T s t ((P.fieldsOf t).toList.map fun f => (f.offset, f.type)) z (evs s parts) = .ok v s' → s' = s ∧ Tells P w0 fp c s s a (.free []) (fun w => (Instr.build t (parts.map fun (i, x) => (i, a.eval x))).run P w) v := fun hop => by
      unfold buildCells at hop
      split at hop
      case h_2 => cases hop
      rename_i l hl
      split at hop
      case isFalse => cases hop
      rename_i hall
      obtain ⟨rfl, rfl⟩ := R.ok.inj hop
      obtain ⟨lu, h1, h2, _⟩ := fillParts_sound (c := c) (fun i => (((P.fieldsOf t).toList.map fun f => (f.offset, f.type)).getD i (0, 0)).1) (fun i => ((P.fieldsOf t).map fun f => (f.offset, (P.cellsOf f.type)))[i]?) _ _ z (T t).zero.cells l hl hzr (parts_len parts s a)
        (fun k p q hp hq => by
          obtain ⟨e1, hxv, hmem⟩ := hpg k p q hp hq
          refine ⟨e1, hxv, ?_⟩
          have := List.all_eq_true.1 hall p hmem
          obtain ⟨i, x⟩ := p
          dsimp only at this ⊢
          cases hm : cells x with
          | none => simp [hm] at this
          | some m =>
            simp only [hm, Option.elim_some] at this
            refine ⟨m, rfl, ?_⟩
            cases hf : ((P.fieldsOf t).toList.map fun f => (f.offset, f.type))[i]? with
            | none => simp [hf] at this
            | some f =>
              rw [hf] at this
              simp only [Option.elim_some, Bool.and_eq_true, beq_iff_eq] at this
              rw [hpl i f.1 f.2 _ hf this.1 rfl, List.getD_eq_getElem?_getD, hf, this.2]
              rfl)
      have ha : aggTy (T t).d = true := by rw [hdt]; rfl
      have := shapeD_sound (ti := T t) (fun q hq => (hT.tpOK hok hq).2.1) h2
      simp only [shapeU, ha, if_true] at this
      exact ⟨rfl, fin h1 this⟩
    split at hop
    · rename_i q hq
      split at hop
      · rename_i hqp
        split at hop
        · rename_i e he
          obtain ⟨rfl, rfl⟩ := R.ok.inj hop
          obtain ⟨q1, q2, q3, _⟩ := hT.tpOK hok hq
          obtain ⟨lu, h1, h2⟩ := fillF_sound (c := c) (T := T) (q := q) (pl := fun i => ((P.fieldsOf t).map fun f => (f.offset, (P.cellsOf f.type)))[i]?) (fun i off ft tt hf hk htt => hpl i off ft _ hf hk (hT.tpOK hk htt).1.symm) _ _ q.z (T t).zero.cells e he (by rw [q3]; exact q.zc_sound) (parts_len parts s a) (fun k p r hp hr => ⟨(hpg k p r hp hr).1, (hpg k p r hp hr).2.1⟩)
          exact ⟨rfl, fin h1 (by simp only [RV]; exact ⟨_, rfl, h2⟩)⟩
        · exact byC hop
      · exact byC hop
    · exact byC hop
  · rename_i n e z hdt hz
    rw [hdt] at hd
    have hd1 : P.underlying t = some (.array n e) := hd
    split at hop
    case h_2 => cases hop
    rename_i l hl
    split at hop
    case isFalse => cases hop
    rename_i hall
    obtain ⟨rfl, rfl⟩ := R.ok.inj hop
    refine ⟨rfl, ?_⟩
    have hzr := zero_cells (c := c) hz
    simp only [Bool.and_eq_true] at hall
    obtain ⟨hoke, hall⟩ := hall
    obtain ⟨lu, h1, h2, _⟩ := fillParts_sound (c := c) (fun i => i * (T e).size) (fun i => some (i * (T e).size, (T e).size)) _ _ z (T t).zero.cells l hl hzr (parts_len parts s a)
      (fun k p q hp hq => by
        obtain ⟨e1, hxv, hmem⟩ := hpg k p q hp hq
        refine ⟨e1, hxv, ?_⟩
        have := List.all_eq_true.1 hall p hmem
        obtain ⟨i, x⟩ := p
        dsimp only at this ⊢
        cases hm : cells x with
        | none => simp [hm] at this
        | some m =>
          simp only [hm, Option.elim_some, Bool.and_eq_true, beq_iff_eq] at this
          exact ⟨m, rfl, by rw [this.2]⟩)
    have ha : aggTy (T t).d = true := by rw [hdt]; rfl
    have := shapeD_sound (ti := T t) (fun q hq => (hT.tpOK hok hq).2.1) h2
    simp only [shapeU, ha, if_true] at this
    refine h.still (u := .agg lu) ?_ this
    intro w' _
    simp only [Instr.build, Sem.run_bind, hT.run_zero hok, Result.andThen_ok, run_underlying hd1 w', hT.run_size hoke, h1, Sem.run_pure]
  · cases hop
theorem buildSlice_sound (h : Holds w0 fp c s a) {t e : TypeId} {len : Nat} {parts : Array (Nat × Operand)} {q : Tp} {l : List q.T} (hdt : (T t).d = .slice e) (hq : (T e).tp = some q) (hok : (T e).ok = true) (hqs : q.size = (T e).size) (hbig : len * (T e).size ≤ 1000) (hl : fillD q (List.replicate len q.z) (evs s parts) = some l) :
    Tells P w0 fp c s { s with rows := s.rows ++ [⟨true, false, e, q, .l len, l⟩] } a .make (fun w => (Instr.buildSlice t len (parts.map fun (i, x) => (i, a.eval x))).run P w) (.own s.rows.length) := by
  have hd := hT.desc t
  rw [hdt] at hd
  have hd1 : P.underlying t = some (.slice e) := hd
  have hs0 : 0 < (T e).size := by rw [← hqs]; exact q.size_pos
  obtain ⟨_, _, hzc, _⟩ := hT.tpOK hok hq
  have hzs := (hT.ok e hok).zsz
  have hz0 : RpL (Rp c q) (List.replicate len q.z) ((Array.range (len * (T e).size)).map (fun i => (T e).zero.cells[i % (T e).zero.cells.size]!)).toList := by
    rw [zeros_flat _ len _ hzs hs0, zero_list _ _ hzs, hzc]
    exact RpL.replicate q.zc_sound len
  obtain ⟨lu, h1, h2, h3⟩ := fillD_sound _ _ _ _ l hl hz0 (parts_len parts s a) (fun k p r hp hr => ⟨(parts_get h.tmps parts k p r hp hr).1, (parts_get h.tmps parts k p r hp hr).2.1⟩)
  rw [List.length_replicate] at h3
  have hsz : lu.size = len * (T e).size := by have := h2.len; simpa [h3, hqs] using this
  rw [hqs] at h1
  have hcap : len ≤ maxLen := by unfold maxLen; have : len ≤ len * (T e).size := Nat.le_mul_of_pos_right len hs0; omega
  have hat : RowAt (c.w.alloc (.cells lu e)) false e q.size (.slice (some ⟨c.w.heap.size, 0, none⟩) len len) l.length lu.toList := by
    refine ⟨by rw [h3, hqs]; simpa using hsz, .inr (.inr ⟨c.w.heap.size, 0, len, by rw [h3], by omega, hcap, ⟨lu, e, heap_alloc_new c.w _, by simp, by rw [List.drop_zero, List.take_length]⟩, fun _ => ⟨rfl, lu, heap_alloc_new c.w _, by rw [hsz, hqs]⟩⟩)⟩
  obtain ⟨le, hh⟩ := h.newRow (⟨true, false, e, q, .l len, l⟩ : Row) (v := .slice (some ⟨c.w.heap.size, 0, none⟩) len len) (w' := c.w.alloc (.cells lu e)) (us := lu.toList) (Keeps.alloc _ _ _) hat (by simp [I.val, h3]) h2
    (fun k o hf => by simp only [rowF] at hf; rw [hf.1]; exact Nat.le_refl _)
  refine ⟨.slice (some ⟨c.w.heap.size, 0, none⟩) len len, c.newRow (.slice (some ⟨c.w.heap.size, 0, none⟩) len len) (c.w.alloc (.cells lu e)), ?_, hh, ?_, (fun _ h => by cases h), StepOK.newRow h (Keeps.alloc _ _ _) []⟩
  · simp only [Instr.buildSlice, Sem.run_bind, run_underlying hd1 c.w, Result.andThen_ok, hT.run_size hok]
    have hb : ¬ (len * (T e).size > 2 ^ 24) := by omega
    rw [if_neg hb]
    by_cases hl0 : len * (T e).size = 0
    · have h1' : Instr.fill (fun i => some (i * (T e).size, (T e).size)) #[] (parts.map fun (i, x) => (i, a.eval x)).toList = some lu := by
        rw [hl0, Array.range_zero', Array.map_empty] at h1; exact h1
      simp only [hl0, if_true, Sem.run_pure, Result.andThen_ok, Array.range_zero', Array.map_empty, h1', Sem.run_bind]
      simp [newRow, newObj, C.newRow]
      rfl
    · simp only [hl0, if_false, Sem.run_bind, hT.run_zero hok, Result.andThen_ok, Sem.run_pure, h1]
      simp [newRow, newObj, C.newRow]
      rfl
  · simp only [RV, C.newRow]
    exact ⟨by rw [h.nr]; omega, by rw [if_pos h.nr.symm], by rw [if_pos h.nr.symm]; rfl⟩

omit hT in
theorem run_binI (o : BinOp) (t : TypeId) (x y : Operand) (k k' : IntKind) (p q : I) (hk : (k == k' || o == .shl || o == .shr) = true) (ns : List Need) (hns : needI o q = some ns) (hn : needsOK ns) :
    ∃ u, (∀ w : World, ((do eqGuard o t x y (.int k p.val) (.int k' q.val); binOp o t (.int k p.val) (.int k' q.val)) : Sem Value).run P w = .ok u w) ∧ RV c (binI o k p q) u := by
  have hg : ∀ w : World, (eqGuard o t x y (.int k p.val) (.int k' q.val)).run P w = .ok () w := fun w => by cases o <;> rfl
  simp only [Sem.run_bind, hg, Result.andThen_ok]
  -- the comparisons
  have cmp : isCmp o = true → ∃ u, (∀ w : World, (binOp o t (.int k p.val) (.int k' q.val)).run P w = .ok u w) ∧ RV c (binI o k p q) u := fun hc => by
    have hkk : k = k' := by cases o <;> simp_all [isCmp]
    subst hkk
    have hb : ∀ b, b = litCmp o p.val q.val → RV c (binI o k p q) (.bool b) := fun b hb => by
      unfold binI
      rw [if_pos hc]
      cases p <;> cases q <;> simp [RV, B.val, hb, I.val]
    refine ⟨.bool (litCmp o p.val q.val), fun w => ?_, hb _ rfl⟩
    cases o <;> first | (simp [isCmp] at hc; done) | simp [binOp, Op.intCmp, litCmp]
  by_cases hc : isCmp o = true
  · exact cmp hc
  · have hi : ∀ n, n = litArith o k p.val q.val → RV c (binI o k p q) (.int k n) := fun n hn => by
      unfold binI
      rw [if_neg hc]
      cases p <;> cases q <;> simp [RV, hn, I.val]
    refine ⟨.int k (litArith o k p.val q.val), fun w => ?_, hi _ rfl⟩
    have hshift : ∀ y : Int, needI .shl q = some ns → 0 ≤ q.val := fun _ h => by
      cases q with
      | l n => simp only [needI] at h; split at h; · cases h
               · simp only [I.val]; omega
      | s n => simp only [needI, Option.some.injEq] at h; subst h; exact hn.1
    have hdiv : needI .quo q = some ns → q.val ≠ 0 := fun h => by
      cases q with
      | l n => simp only [needI] at h; split at h; · cases h
               · rename_i hne; simpa [I.val] using hne
      | s n => simp only [needI, Option.some.injEq] at h; subst h; exact hn.1
    cases o
    case eql | neq | lss | leq | gtr | geq => simp [isCmp] at hc
    case shl => have := hshift 0 hns; simp [binOp, Op.shift, litArith, show ¬ q.val < 0 by omega]
    case shr => have := hshift 0 hns; simp [binOp, Op.shift, litArith, show ¬ q.val < 0 by omega]
    case quo => have hkk : k = k' := by simpa using hk
                subst hkk; have := hdiv hns; simp [binOp, Op.intDiv, litArith, this]
    case rem => have hkk : k = k' := by simpa using hk
                subst hkk; have := hdiv hns; simp [binOp, Op.intDiv, litArith, this]
    all_goals
      have hkk : k = k' := by simpa using hk
      subst hkk
      simp [binOp, Op.intArith, Op.intBits, litArith]

end

theorem ownsRow_base0 {w : World} {base e size n : Nat} {v : Value} {xs : List Value} (h : w.ownsRow base e size v n xs) : w.ownsRow 0 e size v n xs := by
  obtain ⟨h1, h2⟩ := h
  refine ⟨h1, ?_⟩
  rcases h2 with h2 | ⟨g, cap, cur, hv, _, r⟩
  · exact .inl h2
  · exact .inr ⟨g, cap, cur, hv, Nat.zero_le _, r⟩
/-- 'append' onto a row of the call's own, from whatever slice: where the row then lies. -/
theorem append_own2 {P : Program} (w : World) (t ty e : TypeId) (i : TypeInfo) (z : Value) (size bytes : Nat) (ht : P.underlying t = some (.slice e)) (hi : P.info? e = some i) (hz : i.zero = some z)
    (hsize : i.size = size) (hby : i.bytes = bytes) (hzs : z.cells.size = size) (hsz : 0 < size)
    (v : Value) (n : Nat) (xs : List Value) (hown : w.ownsRow 0 e size v n xs)
    (A : Option Addr) (m c : Nat) (news : List Value) (hl : news.length = m * size) (hA : A = none → m = 0) (hnews : ∀ a, A = some a → ∀ j u, news[j]? = some u → w.cell? (a.add j) = some u) (h1 : ∀ u ∈ news, u.oneCell' = true)
    (h63 : n + m ≤ maxLen) (hbytes : (n + m) * bytes ≤ 140737488355328) :
    ∃ v' w', (Builtin.append_ #[t, t] ty #[v, .slice A m c]).run P w = .ok v' w' ∧ w'.ownsRow 0 e size v' (n + m) (xs ++ news) ∧ w.grownBy w' v.ownBlock ∧ v'.oneCell' = true ∧
      (∀ k, v'.ownBlock = some k → v.ownBlock = some k ∨ w.heap.size ≤ k) ∧ Shape w w' ∧ w.drawn ≤ w'.drawn := by
  cases A with
  | none =>
    obtain rfl := hA rfl
    have hnil : news = [] := List.eq_nil_of_length_eq_zero (by simpa using hl)
    subst hnil
    have hself : w.grownBy w v.ownBlock := ⟨rfl, rfl, rfl, Nat.le_refl _, fun _ _ _ => rfl⟩
    rcases hown.2 with ⟨rfl, rfl⟩ | ⟨g, cap, cur, rfl, hbg, hg, hnc, hcm, hcs, htake⟩
    · refine ⟨.slice none 0 0, w, ?_, by simpa using hown, hself, rfl, fun k hk => .inl hk, shape_of_blocks (fun _ _ => rfl), Nat.le_refl _⟩
      simp [Builtin.append_, run_underlying ht, sizeOf, typeInfo, hi, Builtin.lenOf, Builtin.firstCells]
    · refine ⟨.slice (some ⟨g, 0, none⟩) n cap, w, ?_, by simpa using hown, hself, rfl, fun k hk => .inl hk, shape_of_blocks (fun _ _ => rfl), Nat.le_refl _⟩
      simp [Builtin.append_, run_underlying ht, sizeOf, typeInfo, hi, Builtin.lenOf, Builtin.firstCells, hnc, storeCells]
  | some a =>
    have hnews' := hnews a rfl
    rcases hown.2 with ⟨rfl, rfl⟩ | ⟨g, cap, cur, rfl, hbg, hg, hnc, hcm, hcs, htake⟩
    · have hx : xs = [] := List.eq_nil_of_length_eq_zero (by simpa using hown.1)
      subst hx
      have hdr : ∀ v' w', (Builtin.append_ #[t, t] ty #[.slice none 0 0, .slice (some a) m c]).run P w = .ok v' w' → w.drawn ≤ w'.drawn := by
        intro v' w' h
        by_cases hm : m = 0
        · subst hm
          have hn : news = [] := List.eq_nil_of_length_eq_zero (by simpa using hl)
          subst hn
          have hr : (Builtin.append_ #[t, t] ty #[.slice none 0 0, .slice (some a) 0 c]).run P w = .ok (.slice none 0 0) w := by
            simp [Builtin.append_, run_underlying ht, sizeOf, typeInfo, hi, Builtin.lenOf, Builtin.firstCells, loadCells, loadCellsFrom]
          rw [hr] at h
          injection h with _ e
          rw [← e]; exact Nat.le_refl _
        · subst hsize
          subst hby
          have hr := run_append_nil (P := P) w t ty e i z ht hi hz a m c news hl hnews' (by omega) (by simp only [maxLen] at h63; omega) (by have hb := hbytes; simp only [Nat.zero_add] at hb; omega)
          rw [hr] at h
          injection h with _ e
          rw [← e]
          exact Nat.le_succ _
      obtain ⟨v', w', h, ho, hgr, hnil⟩ := run_append_own (P := P) w w.heap.size t ty e i z size bytes ht hi hz hsize hby hzs hsz (.slice none 0 0) 0 [] (World.ownsRow_nil _ _ _ _) a m c news hl hnews' h1 h63 hbytes (Nat.le_refl _)
      refine ⟨v', w', h, ownsRow_base0 ho, hgr, ?_, fun k hk => .inr (ho.lt k hk).1, shape_of_blocks (fun k hk => hgr.block k hk (by simp [Value.ownBlock])), hdr _ _ h⟩
      rcases ho.2 with ⟨rfl, _⟩ | ⟨_, _, _, rfl, _⟩ <;> rfl
    · by_cases hroom : n + m ≤ cap
      · subst hsize
        have hlen : (xs ++ news).length = (n + m) * i.size := by rw [List.length_append, hown.1, hl, Nat.add_mul]
        have hfit : n * i.size + news.length ≤ cur.size := by rw [hl, hcs, ← Nat.add_mul]; exact Nat.mul_le_mul_right _ hroom
        have hr := run_append_room (P := P) w t ty e i ht hi g n cap cur hg a m c news hl hnews' h1 hroom hfit
        refine ⟨_, _, hr, ⟨hlen, .inr ⟨g, cap, _, rfl, Nat.zero_le _, setRow_heap w g cur _ e _ hg, hroom, hcm, ?_, ?_⟩⟩, ⟨rfl, rfl, rfl, by simp, fun k _ hk => setRow_other w g k _ (fun e => hk (by simp [Value.ownBlock, e]))⟩, rfl, fun k hk => .inl hk, shape_setRow hg ?_, Nat.le_refl _⟩
        · simp only [List.size_toArray, List.length_append, List.length_take, List.length_drop, Array.length_toList]
          omega
        · rw [htake, ← hlen]
          exact List.take_left
        · simp only [List.size_toArray, List.length_append, List.length_take, List.length_drop, Array.length_toList]
          omega
      · have hown' : ∀ j u, xs[j]? = some u → w.cell? ((⟨g, 0, none⟩ : Addr).add j) = some u := hown.cells (g := g) rfl
        subst hsize
        subst hby
        have hr := run_append_grow (P := P) w t ty e i z ht hi hz ⟨g, 0, none⟩ n cap xs hown.1 hown' a m c news hl hnews' (by omega) (by simp only [maxLen] at h63; omega) (growslice_fits (by omega) hbytes)
        have hge := grownCap_ge w (n + m) cap e
        have hlen : (xs ++ news).length = (n + m) * i.size := by rw [List.length_append, hown.1, hl, Nat.add_mul]
        refine ⟨_, _, hr, ⟨hlen, .inr ⟨w.heap.size, _, _, rfl, Nat.zero_le _, heap_alloc_new w.drew _, hge, grownCap_le_maxLen w (n + m) cap e h63, ?_, ?_⟩⟩, ⟨rfl, rfl, rfl, by simp, fun k hk _ => heap_alloc_old w.drew _ hk⟩, rfl, fun k hk => .inr ?_, shape_of_blocks (fun k hk => heap_alloc_old w.drew _ hk), Nat.le_succ _⟩
        · simp only [Array.size_append, List.size_toArray, size_zeroCells, hzs, hown.1, hl, ← Nat.add_mul]
          congr 1
          omega
        · simp only [Array.toList_append, List.append_assoc]
          rw [← List.append_assoc, ← hlen]
          exact List.take_left
        · simp [Value.ownBlock] at hk
          omega


end Go.Fx
