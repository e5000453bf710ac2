/- More operations: '==', parts of rows, bytes as a text, the greater and the less. -/
import Derived.Test.YtplefbcgpbdkfaaDoorFh
set_option linter.all false
namespace Go.Fx
open Go Go.RowKit

/-! ### '==' -/
def fitK : Kd → Value → Bool
  | .i k, .int k' _ => k == k'
  | .b, .bool _ => true
  | .s, .string _ => true
  | _, _ => false
def fitKs : List Kd → List Value → Bool
  | [], [] => true
  | k :: ks, v :: vs => fitK k v && fitKs ks vs
  | _, _ => false
def eqU : Value → Value → Bool
  | .int _ a, .int _ b => a == b
  | .bool a, .bool b => a == b
  | .string a, .string b => a.toList == b.toList
  | _, _ => false
def eqUs : List Value → List Value → Bool
  | [], [] => true
  | v :: vs, u :: us => eqU v u && eqUs vs us
  | _, _ => false
theorem fitKs_length : ∀ {ks : List Kd} {vs : List Value}, fitKs ks vs = true → vs.length = ks.length
  | [], [], _ => rfl
  | k :: ks, v :: vs, h => by simp only [fitKs, Bool.and_eq_true] at h; simp [fitKs_length h.2]
  | [], _ :: _, h => by simp [fitKs] at h
  | _ :: _, [], h => by simp [fitKs] at h
theorem fitKs_append : ∀ {k1 k2 : List Kd} {vs : List Value}, fitKs (k1 ++ k2) vs = true → fitKs k1 (vs.take k1.length) = true ∧ fitKs k2 (vs.drop k1.length) = true
  | [], k2, vs, h => by simpa [fitKs] using h
  | k :: k1, k2, v :: vs, h => by
    simp only [List.cons_append, fitKs, Bool.and_eq_true] at h
    have := fitKs_append h.2
    simp only [List.length_cons, List.take_succ_cons, List.drop_succ_cons, fitKs, Bool.and_eq_true]
    exact ⟨⟨h.1, this.1⟩, this.2⟩
  | k :: k1, k2, [], h => by simp [fitKs] at h
theorem eqUs_append : ∀ (n : Nat) {vs us : List Value}, vs.length = us.length → eqUs vs us = (eqUs (vs.take n) (us.take n) && eqUs (vs.drop n) (us.drop n))
  | 0, vs, us, h => by simp [eqUs]
  | n + 1, [], [], h => by simp [eqUs]
  | n + 1, v :: vs, u :: us, h => by
    simp only [List.length_cons, Nat.add_right_cancel_iff] at h
    simp only [eqUs, List.take_succ_cons, List.drop_succ_cons, eqUs_append n h, Bool.and_assoc]
  | n + 1, [], u :: us, h => by simp at h
  | n + 1, v :: vs, [], h => by simp at h

section
variable {P : Program}
/-- What stands for the cells of a value of a type. -/
def asT (P : Program) (t : TypeId) (us : List Value) : Value := if (P.underlying t).any aggD then .agg us.toArray else us.getD 0 undef
theorem run_partT {t : TypeId} {i : TypeInfo} (hi : P.info? t = some i) {d : TypeDesc} (hd : P.underlying t = some d) (w : World) (xs : Array Value) (off : Nat) (hfit : off + i.size ≤ xs.size) (hone : aggD d = false → i.size = 1) :
    (part t xs off).run P w = .ok (asT P t ((xs.toList.drop off).take i.size)) w := by
  have hz : (sizeOf t).run P w = .ok i.size w := by simp [sizeOf, typeInfo, hi]
  have ha : (isAgg t).run P w = .ok (aggD d) w := by
    unfold isAgg
    rw [Sem.run_bind, run_underlying hd w]
    cases d <;> simp [aggD]
  simp only [part, Sem.run_bind, ha, Result.andThen_ok, asT, hd, Option.any_some]
  cases hg : aggD d with
  | true =>
    simp only [if_true, Sem.run_bind, hz, Result.andThen_ok, Sem.run_pure]
    congr 2
    apply Array.ext'
    simp [Array.toList_extract, List.extract_eq_take_drop]
  | false =>
    have h1 := hone hg
    simp only [Bool.false_eq_true, if_false]
    have hlt : off < xs.size := by omega
    rw [Array.getElem?_eq_getElem hlt]
    simp [h1, List.getD, hlt]

theorem eqB_one {d : Nat} {t : TypeId} {ks : List Kd} (h : eqB P d t = some ks) : ∃ ds, P.underlying t = some ds ∧ (aggD ds = false → ks.length = 1) := by
  cases d with
  | zero => simp [eqB] at h
  | succ d =>
    simp only [eqB] at h
    split at h
    · rename_i hu; exact ⟨_, hu, fun _ => by have := Option.some.inj h; subst this; rfl⟩
    · rename_i hu; exact ⟨_, hu, fun _ => by have := Option.some.inj h; subst this; rfl⟩
    · rename_i hu; exact ⟨_, hu, fun _ => by have := Option.some.inj h; subst this; rfl⟩
    · rename_i hu; exact ⟨_, hu, fun hc => by simp [aggD] at hc⟩
    · cases h

theorem eqFields_run {D : Nat} {f : TypeId → Option (List Kd)} (hf : ∀ t ks, f t = some ks → (∃ ds, P.underlying t = some ds ∧ (aggD ds = false → ks.length = 1)) ∧ ∀ (w : World) (xs ys : List Value), fitKs ks xs = true → fitKs ks ys = true → (Op.equalIn D t (asT P t xs) (asT P t ys)).run P w = .ok (eqUs xs ys) w) (w : World) (X Y : Array Value) :
    ∀ (fs : List Field) (off : Nat) (ks : List Kd), eqFs P f off fs = some ks → fitKs ks (X.toList.drop off) = true → fitKs ks (Y.toList.drop off) = true → (Op.eqFields D X Y fs).run P w = .ok (eqUs (X.toList.drop off) (Y.toList.drop off)) w
  | [], off, ks, h, hx, hy => by
    simp only [eqFs, Option.some.injEq] at h
    subst h
    have e1 := fitKs_length hx
    have e2 := fitKs_length hy
    rw [List.eq_nil_of_length_eq_zero e1, List.eq_nil_of_length_eq_zero e2]
    simp [Op.eqFields, eqUs]
  | fd :: fs, off, ks, h, hx, hy => by
    simp only [eqFs] at h
    split at h
    case h_2 => cases h
    rename_i k k2 hk hk2
    split at h
    case isFalse => cases h
    rename_i hc
    simp only [Bool.and_eq_true, beq_iff_eq, bne_iff_ne, ne_eq, Option.any_eq_true] at hc
    obtain ⟨⟨⟨hn, ho⟩, i, hi, hsz⟩, hk0⟩ := hc
    obtain rfl := Option.some.inj h
    subst ho
    obtain ⟨⟨ds, hds, hone⟩, heq⟩ := hf _ _ hk
    have hx' := fitKs_append hx
    have hy' := fitKs_append hy
    have lx := fitKs_length hx
    have ly := fitKs_length hy
    simp only [List.length_drop, Array.length_toList, List.length_append] at lx ly
    have px := run_partT hi hds w X fd.offset (by omega) (fun ha => by rw [hsz]; exact hone ha)
    have py := run_partT hi hds w Y fd.offset (by omega) (fun ha => by rw [hsz]; exact hone ha)
    rw [hsz] at px py
    have he := heq w _ _ hx'.1 hy'.1
    have hr := eqFields_run hf w X Y fs _ _ hk2 (by rw [hi]; simp only [Option.elim]; rw [hsz, ← List.drop_drop]; exact hx'.2) (by rw [hi]; simp only [Option.elim]; rw [hsz, ← List.drop_drop]; exact hy'.2)
    rw [hi] at hr
    simp only [Option.elim] at hr
    rw [hsz, ← List.drop_drop, ← List.drop_drop] at hr
    rw [eqUs_append k.length (vs := X.toList.drop fd.offset) (us := Y.toList.drop fd.offset) (by simp; omega)]
    simp only [Op.eqFields]
    rw [if_pos hn]
    simp only [Sem.run_bind, px, Result.andThen_ok, py, he]
    cases eqUs ((X.toList.drop fd.offset).take k.length) ((Y.toList.drop fd.offset).take k.length)
    · simp
    · simpa using hr

theorem fit1 {k : Kd} {xs : List Value} (h : fitKs [k] xs = true) : ∃ x, xs = [x] ∧ fitK k x = true := by
  match xs, h with
  | [x], h => exact ⟨x, rfl, by simpa [fitKs] using h⟩
  | [], h => simp [fitKs] at h
  | _ :: _ :: _, h => simp [fitKs] at h
theorem eqB_run : ∀ (d D : Nat) (t : TypeId) (ks : List Kd), d ≤ D → eqB P d t = some ks → ∀ (w : World) (xs ys : List Value), fitKs ks xs = true → fitKs ks ys = true → (Op.equalIn D t (asT P t xs) (asT P t ys)).run P w = .ok (eqUs xs ys) w
  | 0, _, _, _, _, h, _, _, _, _, _ => by simp [eqB] at h
  | d + 1, 0, _, _, hD, _, _, _, _, _, _ => by omega
  | d + 1, D + 1, t, ks, hD, h, w, xs, ys, hx, hy => by
    simp only [eqB] at h
    split at h
    · rename_i k hu
      obtain rfl := Option.some.inj h
      obtain ⟨x, rfl, hx⟩ := fit1 hx
      obtain ⟨y, rfl, hy⟩ := fit1 hy
      obtain ⟨n, rfl⟩ : ∃ n, x = .int k n := by cases x <;> simp_all [fitK]
      obtain ⟨m, rfl⟩ : ∃ n, y = .int k n := by cases y <;> simp_all [fitK]
      simp [asT, hu, aggD, Op.equalIn, run_underlying hu, eqUs, eqU]
    · rename_i hu
      obtain rfl := Option.some.inj h
      obtain ⟨x, rfl, hx⟩ := fit1 hx
      obtain ⟨y, rfl, hy⟩ := fit1 hy
      obtain ⟨n, rfl⟩ : ∃ n, x = .bool n := by cases x <;> simp_all [fitK]
      obtain ⟨m, rfl⟩ : ∃ n, y = .bool n := by cases y <;> simp_all [fitK]
      simp [asT, hu, aggD, Op.equalIn, run_underlying hu, eqUs, eqU]
    · rename_i hu
      obtain rfl := Option.some.inj h
      obtain ⟨x, rfl, hx⟩ := fit1 hx
      obtain ⟨y, rfl, hy⟩ := fit1 hy
      obtain ⟨n, rfl⟩ : ∃ n, x = .string n := by cases x <;> simp_all [fitK]
      obtain ⟨m, rfl⟩ : ∃ n, y = .string n := by cases y <;> simp_all [fitK]
      simp [asT, hu, aggD, run_equalIn_string w D t _ _ hu, eqUs, eqU]
    · rename_i fs hu
      split at h
      case isTrue => cases h
      rename_i hs
      have hf : P.fieldsOf t = fs := by simp [Program.fieldsOf, hu]
      have ha : ∀ us, asT P t us = .agg us.toArray := fun us => by simp [asT, hu, aggD]
      rw [ha, ha, run_equalIn_struct w D t _ _ (by rw [hf]; exact hu) (by simpa using hs), hf]
      have := eqFields_run (D := D) (f := eqB P d) (fun t ks hk => ⟨eqB_one hk, fun w xs ys hx hy => eqB_run d D t ks (by omega) hk w xs ys hx hy⟩) w xs.toArray ys.toArray fs.toList 0 ks h (by simpa using hx) (by simpa using hy)
      simpa using this
    · cases h

theorem bAnd_val (a b : B) : (bAnd a b).val = (a.val && b.val) := by
  cases a with
  | l x => cases x <;> cases b <;> simp [bAnd, B.val]
  | s x => cases b with
    | l y => cases y <;> simp [bAnd, B.val]
    | s y => simp [bAnd, B.val]
theorem bNot_val (a : B) : (bNot a).val = !a.val := by cases a <;> simp [bNot, B.val]
theorem eqCell_sound {c : C} {k : Kd} {x y : V} {u v : Value} {r : B} (hx : RV c x u) (hy : RV c y v) (h : eqCell k x y = some r) : fitK k u = true ∧ fitK k v = true ∧ eqU u v = r.val := by
  unfold eqCell at h
  split at h
  · split at h
    case isFalse => cases h
    rename_i k k1 a k2 b hk
    simp only [Bool.and_eq_true, beq_iff_eq] at hk
    obtain rfl := Option.some.inj h
    simp only [RV] at hx hy
    subst hx hy
    refine ⟨by simp [fitK, hk.1], by simp [fitK, hk.2], ?_⟩
    cases a <;> cases b <;> simp [eqU, B.val, I.val]
  · obtain rfl := Option.some.inj h
    rename_i a b
    simp only [RV] at hx hy
    subst hx hy
    refine ⟨rfl, rfl, ?_⟩
    cases a <;> cases b <;> simp [eqU, B.val]
  · obtain rfl := Option.some.inj h
    simp only [RV] at hx hy
    subst hx hy
    exact ⟨rfl, rfl, by simp [eqU, B.val, same_toList]⟩
  · cases h
theorem eqCells_sound {c : C} : ∀ {ks : List Kd} {xs ys : List V} {us vs : List Value} {r : B}, RVs c xs us → RVs c ys vs → eqCells ks xs ys = some r → fitKs ks us = true ∧ fitKs ks vs = true ∧ eqUs us vs = r.val
  | [], [], [], us, vs, r, hx, hy, h => by
    simp only [RVs] at hx hy
    subst hx hy
    obtain rfl := Option.some.inj h
    exact ⟨rfl, rfl, rfl⟩
  | k :: ks, x :: xs, y :: ys, us, vs, r, hx, hy, h => by
    simp only [RVs] at hx hy
    obtain ⟨u, us, rfl, hu, hus⟩ := hx
    obtain ⟨v, vs, rfl, hv, hvs⟩ := hy
    simp only [eqCells] at h
    split at h
    · rename_i a b ha hb
      obtain rfl := Option.some.inj h
      obtain ⟨f1, f2, f3⟩ := eqCell_sound hu hv ha
      obtain ⟨g1, g2, g3⟩ := eqCells_sound hus hvs hb
      exact ⟨by simp [fitKs, f1, g1], by simp [fitKs, f2, g2], by simp [eqUs, f3, g3, bAnd_val]⟩
    · cases h
  | [], _ :: _, _, _, _, _, _, _, h | [], [], _ :: _, _, _, _, _, _, h | _ :: _, [], _, _, _, _, _, _, h | _ :: _, _ :: _, [], _, _, _, _, _, h => by simp [eqCells] at h
theorem fitKs_app : ∀ {k1 k2 : List Kd} {u1 u2 : List Value}, fitKs k1 u1 = true → fitKs k2 u2 = true → fitKs (k1 ++ k2) (u1 ++ u2) = true
  | [], k2, [], u2, _, h => h
  | k :: k1, k2, v :: u1, u2, h, h' => by
    simp only [fitKs, Bool.and_eq_true, List.cons_append] at h ⊢
    exact ⟨h.1, fitKs_app h.2 h'⟩
  | [], _, _ :: _, _, h, _ => by simp [fitKs] at h
  | _ :: _, _, [], _, h, _ => by simp [fitKs] at h
theorem eqUs_app {u1 u2 v1 v2 : List Value} (h1 : u1.length = v1.length) (h2 : u2.length = v2.length) : eqUs (u1 ++ u2) (v1 ++ v2) = (eqUs u1 v1 && eqUs u2 v2) := by
  rw [eqUs_append u1.length (by simp [h1, h2])]
  rw [h1]
  simp [← h1]
theorem same_prod {α β : Type} (a b : α × β) : same a b = (same a.1 b.1 && same a.2 b.2) := by
  rw [Bool.eq_iff_iff, Bool.and_eq_true, same_iff, same_iff, same_iff]
  exact ⟨fun h => by rw [h]; exact ⟨rfl, rfl⟩, fun h => Prod.ext h.1 h.2⟩
theorem kds_sound {c : C} : ∀ {q : Tp} {a b : q.T} {us vs : List Value} {ks : List Kd}, q.kds = some ks → Rp c q a us → Rp c q b vs → fitKs ks us = true ∧ fitKs ks vs = true ∧ eqUs us vs = same a b
  | .i k, a, b, us, vs, ks, hk, ha, hb => by
    obtain rfl := Option.some.inj hk
    simp only [Rp] at ha hb
    subst ha hb
    refine ⟨by simp [fitKs, fitK], by simp [fitKs, fitK], ?_⟩
    simp only [eqUs, eqU, Bool.and_true]
    rw [Bool.eq_iff_iff, same_iff, beq_iff_eq]
  | .bo, a, b, us, vs, ks, hk, ha, hb => by
    obtain rfl := Option.some.inj hk
    simp only [Rp] at ha hb
    subst ha hb
    refine ⟨by simp [fitKs, fitK], by simp [fitKs, fitK], ?_⟩
    simp only [eqUs, eqU, Bool.and_true]
    rw [Bool.eq_iff_iff, same_iff, beq_iff_eq]
  | .tx, a, b, us, vs, ks, hk, ha, hb => by
    obtain rfl := Option.some.inj hk
    simp only [Rp] at ha hb
    subst ha hb
    refine ⟨by simp [fitKs, fitK], by simp [fitKs, fitK], ?_⟩
    simp only [eqUs, eqU, Bool.and_true]
    rw [← same_toList]
  | .sl t, a, b, us, vs, ks, hk, ha, hb => by cases hk
  | .pt, a, b, us, vs, ks, hk, ha, hb => by cases hk
  | .p x y, a, b, us, vs, ks, hk, ha, hb => by
    simp only [Tp.kds] at hk
    split at hk
    · rename_i k1 k2 h1 h2
      obtain rfl := Option.some.inj hk
      simp only [Rp] at ha hb
      obtain ⟨u1, u2, rfl, ha1, ha2⟩ := ha
      obtain ⟨v1, v2, rfl, hb1, hb2⟩ := hb
      obtain ⟨p1, p2, p3⟩ := kds_sound h1 ha1 hb1
      obtain ⟨q1, q2, q3⟩ := kds_sound h2 ha2 hb2
      exact ⟨fitKs_app p1 q1, fitKs_app p2 q2, by rw [eqUs_app (by rw [ha1.length, hb1.length]) (by rw [ha2.length, hb2.length]), p3, q3, same_prod]⟩
    · cases hk
end

theorem leI_sound {a b : I} {ns : List Need} (h : leI a b = some ns) (hn : needsOK ns) : a.val ≤ b.val := by
  unfold leI at h
  split at h
  · split at h
    · simpa [I.val] using ‹_›
    · cases h
  · obtain rfl := Option.some.inj h
    exact hn.1
theorem needsOK_append : ∀ {l m : List Need}, needsOK (l ++ m) → needsOK l ∧ needsOK m
  | [], m, h => ⟨trivial, h⟩
  | _ :: l, m, h => ⟨⟨h.1, (needsOK_append h.2).1⟩, (needsOK_append h.2).2⟩
section
variable {P : Program} {T : TypeId → TI} (hT : TabOK P T) {w0 : World} {fp : Base} {c : C} {s : S} {a : Act}

theorem sliced_eq (A : Option Addr) (l h m s : Nat) : sliced A l h m s = .slice (if m = l then A else A.map (·.add (l * s))) (h - l) (m - l) := rfl
theorem ro_part {c : C} {q : Tp} {l : List q.T} {A : Option Addr} {cp : Nat} {lo hi : Nat} (h1 : lo ≤ hi) (h2 : hi ≤ l.length) (h : Rp c (.sl q) l [.slice A l.length cp]) : Rp c (.sl q) ((l.drop lo).take (hi - lo)) [sliced A lo hi cp q.size] := by
  simp only [Rp, List.cons.injEq, and_true] at h ⊢
  obtain ⟨A', cp', e, hc, hm, hr⟩ := h
  simp only [Value.slice.injEq, true_and] at e
  obtain ⟨rfl, rfl⟩ := e
  have hlen : ((l.drop lo).take (hi - lo)).length = hi - lo := by simp; omega
  rw [sliced_eq, hlen]
  refine ⟨_, _, rfl, by omega, by omega, ?_⟩
  by_cases hz : hi = lo
  · left
    exact List.eq_nil_of_length_eq_zero (by omega)
  · right
    rcases hr with rfl | ⟨g, o, vs, rfl, hs, hl⟩
    · simp at h2; omega
    · have hlv := hl.len
      have hb : hi * q.size ≤ l.length * q.size := Nat.mul_le_mul_right _ h2
      have hb2 : lo * q.size + (hi - lo) * q.size = hi * q.size := by rw [← Nat.add_mul]; congr 1; omega
      have hR := (hl.drop (fun _ _ h => h.length) lo).take (fun _ _ h => h.length) (hi - lo)
      refine ⟨g, o + lo * q.size, (vs.drop (lo * q.size)).take ((hi - lo) * q.size), by rw [if_neg (by omega)]; simp [add_at], ⟨fun j hj => ?_, fun j u hu => ?_, fun u hu => hs.one u (List.mem_of_mem_drop (List.mem_of_mem_take hu))⟩, hR⟩
      · simp only [List.length_take, List.length_drop] at hj
        rw [Nat.add_assoc]
        exact hs.lent _ (by omega)
      · rw [Nat.add_assoc]
        exact hs.cell _ _ (seg_get hu)
/-- A part of a part of a row. -/
theorem vw_part {c : C} {r sz : Nat} {lo n l m lo' n' : I} {A : Option Addr} {len cap : Nat} (h : RV c (.vw r sz lo n) (.slice A len cap)) (hl : 0 ≤ l.val) (hlm : l.val ≤ m.val) (hm : m.val ≤ n.val) (hlo : lo'.val = lo.val + l.val) (hn : n'.val = m.val - l.val) :
    RV c (.vw r sz lo' n') (sliced A l.val.toNat m.val.toNat cap sz) := by
  simp only [RV] at h ⊢
  obtain ⟨hlt, A0, m0, cap0, A', cp, hr, hA, l0, n0, h1, e, h2, hcm, h3, hcap⟩ := h
  injection e with e1 e2 e3
  subst e1 e2 e3
  refine ⟨hlt, A0, m0, cap0, _, _, hr, hA, by omega, by omega, by omega, by unfold sliced; rw [show m.val.toNat - l.val.toNat = n'.val.toNat by omega], by omega, by omega, fun hp => ?_, by omega⟩
  have hA' := h3 (by omega)
  by_cases hc : cap = l.val.toNat
  · have e0 : lo'.val.toNat = lo.val.toNat := by omega
    rw [if_pos hc, hA', e0]
  rw [if_neg hc, hA', Option.map_map]
  congr 1
  funext ad
  simp only [Function.comp_apply, add_add']
  rw [show lo'.val.toNat = lo.val.toNat + l.val.toNat from by omega, Nat.add_mul]

/-- The bounds that are asked for, and what the model makes of them. -/
theorem slice_sound (hT : TabOK P T) {t e : TypeId} {n : I} {v : V} {s' : S} {sz : Nat} {A : Option Addr} {cp : Nat} {lo hi : Option V} {lo' hi' : Option Value} {G : I → I → Prop}
    (h : Holds w0 fp c s a) (hd : (T t).d = .slice e) (hok : (T e).ok = true) (hsz : (T e).size = sz) (hn0 : 0 ≤ n.val) (hnc : n.val.toNat ≤ cp) (hlo : (lo = none ∧ lo' = none) ∨ ∃ x y, lo = some x ∧ lo' = some y ∧ RV c x y) (hhi : (hi = none ∧ hi' = none) ∨ ∃ x y, hi = some x ∧ hi' = some y ∧ RV c x y)
    (hG : ∀ l m : I, G l m → 0 ≤ l.val → l.val ≤ m.val → m.val ≤ n.val → RV c v (sliced A l.val.toNat m.val.toNat cp sz))
    (hop : (lo = none ∧ hi = none ∧ s' = s ∧ G (.l 0) n) ∨
      (∃ k l na nb, lo = some (.i k l) ∧ hi = none ∧ leI (.l 0) l = some na ∧ leI l n = some nb ∧ s' = { s with needs := na ++ (nb ++ s.needs) } ∧ G l n) ∨
      (∃ k m na nb, lo = none ∧ hi = some (.i k m) ∧ leI (.l 0) m = some na ∧ leI m n = some nb ∧ s' = { s with needs := na ++ (nb ++ s.needs) } ∧ G (.l 0) m) ∨
      (∃ k l k' m na nb nc, lo = some (.i k l) ∧ hi = some (.i k' m) ∧ leI (.l 0) l = some na ∧ leI l m = some nb ∧ leI m n = some nc ∧ s' = { s with needs := na ++ (nb ++ (nc ++ s.needs)) } ∧ G l m))
    (hn : needsOK s'.needs) : Tells P w0 fp c s s' a (.free []) (fun w => (Instr.sliceAt t (.slice A n.val.toNat cp) lo' hi' none).run P w) v := by
  have hdt := hT.desc t
  rw [hd] at hdt
  have ht : P.underlying t = some (.slice (P.elem t)) := by
    have : P.underlying t = some (.slice e) := hdt
    rw [this]; simp [Program.elem, this]
  have hel : P.elem t = e := by have : P.underlying t = some (.slice e) := hdt; simp [Program.elem, this]
  have hs : ∀ w, (sizeOf (P.elem t)).run P w = .ok sz w := fun w => by rw [hel, hT.run_size hok, hsz]
  rcases hop with ⟨rfl, rfl, rfl, hg⟩ | ⟨k, l, na, nb, rfl, rfl, ha, hb, rfl, hg⟩ | ⟨k, m, na, nb, rfl, rfl, ha, hb, rfl, hg⟩ | ⟨k, l, k', m, na, nb, nc, rfl, rfl, ha, hb, hc, rfl, hg⟩
  · obtain ⟨_, rfl⟩ := hlo.resolve_right (fun ⟨x, y, e, _⟩ => by cases e)
    obtain ⟨_, rfl⟩ := hhi.resolve_right (fun ⟨x, y, e, _⟩ => by cases e)
    exact h.still (u := sliced A 0 n.val.toNat cp sz) (fun w' _ => by simp only [run_sliceAt_slice (h := ht), run_slice_all (ht := ht), hs, Result.andThen_ok]) (hG (.l 0) n hg (Int.le_refl _) hn0 (Int.le_refl _))
  · obtain ⟨_, rfl⟩ := hhi.resolve_right (fun ⟨x, y, e, _⟩ => by cases e)
    obtain ⟨x, y, e1, rfl, hl⟩ := hlo.resolve_left (fun ⟨e, _⟩ => by cases e)
    obtain rfl := Option.some.inj e1
    simp only [RV] at hl
    subst hl
    obtain ⟨n1, n2⟩ := needsOK_append hn
    have q1 := leI_sound ha n1
    have q2 := leI_sound hb (needsOK_append n2).1
    simp only [Ival_l] at q1
    exact (h.needs _).still (u := sliced A l.val.toNat n.val.toNat cp sz) (fun w' _ => by simp only [run_sliceAt_slice (h := ht), run_slice_l (ht := ht) (h0 := q1) (h1 := show l.val ≤ (n.val.toNat : Int) by omega), hs, Result.andThen_ok]) (hG l n hg q1 q2 (Int.le_refl _))
  · obtain ⟨_, rfl⟩ := hlo.resolve_right (fun ⟨x, y, e, _⟩ => by cases e)
    obtain ⟨x, y, e1, rfl, hl⟩ := hhi.resolve_left (fun ⟨e, _⟩ => by cases e)
    obtain rfl := Option.some.inj e1
    simp only [RV] at hl
    subst hl
    obtain ⟨n1, n2⟩ := needsOK_append hn
    have q1 := leI_sound ha n1
    have q2 := leI_sound hb (needsOK_append n2).1
    simp only [Ival_l] at q1
    exact (h.needs _).still (u := sliced A 0 m.val.toNat cp sz) (fun w' _ => by simp only [run_sliceAt_slice (h := ht), run_slice_h (ht := ht) (h0 := q1) (h2 := show m.val ≤ (cp : Int) by omega), hs, Result.andThen_ok]) (hG (.l 0) m hg (Int.le_refl _) q1 q2)
  · obtain ⟨x, y, e1, rfl, hl⟩ := hlo.resolve_left (fun ⟨e, _⟩ => by cases e)
    obtain rfl := Option.some.inj e1
    obtain ⟨x, y, e1, rfl, hm⟩ := hhi.resolve_left (fun ⟨e, _⟩ => by cases e)
    obtain rfl := Option.some.inj e1
    simp only [RV] at hl hm
    subst hl hm
    obtain ⟨n1, n2⟩ := needsOK_append hn
    obtain ⟨n2, n3⟩ := needsOK_append n2
    have q1 := leI_sound ha n1
    have q2 := leI_sound hb n2
    have q3 := leI_sound hc (needsOK_append n3).1
    simp only [Ival_l] at q1
    exact (h.needs _).still (u := sliced A l.val.toNat m.val.toNat cp sz) (fun w' _ => by simp only [run_sliceAt_slice (h := ht), run_slice_lh (ht := ht) (h0 := q1) (h1 := q2) (h2 := show m.val ≤ (cp : Int) by omega), hs, Result.andThen_ok]) (hG l m hg q1 q2 q3)
theorem cut_sound (hT : TabOK P T) (h : Holds w0 fp c s a) {t e : TypeId} {q : Tp} {n : I} {l : List q.T} {v : V} {s' : S} {u : Value} {lo hi : Option V} {lo' hi' : Option Value}
    (hd : (T t).d = .slice e) (hok : (T e).ok = true) (hsz : (T e).size = q.size) (hx : RV c (.ro q n l) u) (hlo : (lo = none ∧ lo' = none) ∨ ∃ x y, lo = some x ∧ lo' = some y ∧ RV c x y) (hhi : (hi = none ∧ hi' = none) ∨ ∃ x y, hi = some x ∧ hi' = some y ∧ RV c x y)
    (hop : opCut q n l s lo hi = .ok v s') (hn : needsOK s'.needs) : Tells P w0 fp c s s' a (.free []) (fun w => (Instr.sliceAt t u lo' hi' none).run P w) v := by
  simp only [RV] at hx
  obtain ⟨hnl, hx⟩ := hx
  have hx1 := hx
  simp only [Rp, List.cons.injEq, and_true] at hx1
  obtain ⟨A, cp, rfl, h1, _⟩ := hx1
  have hnn : n.val.toNat = l.length := by omega
  rw [← hnn]
  refine slice_sound (n := n) (A := A) (cp := cp) (sz := q.size) (G := fun a m => ∃ n' l', v = .ro q n' l' ∧ n'.val = m.val - a.val ∧ l' = (l.drop a.val.toNat).take (m.val.toNat - a.val.toNat)) hT h hd hok hsz (by omega) (by omega) hlo hhi ?_ ?_ hn
  · rintro a' m ⟨n', l', rfl, e1, rfl⟩ g0 g1 g2
    simp only [RV]
    exact ⟨by rw [e1]; simp; omega, ro_part (by omega) (by omega) hx⟩
  · unfold opCut at hop
    split at hop
    · obtain ⟨rfl, rfl⟩ := R.ok.inj hop
      exact .inl ⟨rfl, rfl, rfl, n, l, rfl, by simp [I.val], by rw [Ival_l, hnn]; simp⟩
    · split at hop
      case h_2 => cases hop
      rename_i na nb ha hb
      obtain ⟨rfl, rfl⟩ := R.ok.inj hop
      exact .inr (.inl ⟨_, _, na, nb, rfl, rfl, ha, hb, rfl, _, _, rfl, subI_val _ _, by rw [dropL_val, List.take_of_length_le]; simp; omega⟩)
    · split at hop
      case h_2 => cases hop
      rename_i na nb ha hb
      obtain ⟨rfl, rfl⟩ := R.ok.inj hop
      exact .inr (.inr (.inl ⟨_, _, na, nb, rfl, rfl, ha, hb, rfl, _, _, rfl, by simp [I.val], by rw [natI_val]; simp [I.val]⟩))
    · split at hop
      case h_2 => cases hop
      rename_i na nb nc ha hb hc
      obtain ⟨rfl, rfl⟩ := R.ok.inj hop
      refine .inr (.inr (.inr ⟨_, _, _, _, na, nb, nc, rfl, rfl, ha, hb, hc, rfl, _, _, rfl, subI_val _ _, ?_⟩))
      rw [cutL_val, subI_val]
      obtain ⟨n1, n2⟩ := needsOK_append hn
      have q1 := leI_sound ha n1
      simp only [Ival_l] at q1
      congr 1
      omega
    · cases hop
theorem view_sound (hT : TabOK P T) (h : Holds w0 fp c s a) {t e : TypeId} {r sz : Nat} {l0 n : I} {v : V} {s' : S} {u : Value} {lo hi : Option V} {lo' hi' : Option Value}
    (hd : (T t).d = .slice e) (hok : (T e).ok = true) (hsz : (T e).size = sz) (hx : RV c (.vw r sz l0 n) u) (hlo : (lo = none ∧ lo' = none) ∨ ∃ x y, lo = some x ∧ lo' = some y ∧ RV c x y) (hhi : (hi = none ∧ hi' = none) ∨ ∃ x y, hi = some x ∧ hi' = some y ∧ RV c x y)
    (hop : opView r sz l0 n s lo hi = .ok v s') (hn : needsOK s'.needs) : Tells P w0 fp c s s' a (.free []) (fun w => (Instr.sliceAt t u lo' hi' none).run P w) v := by
  have hx1 := hx
  simp only [RV] at hx1
  obtain ⟨_, _, _, _, A, cp, _, _, _, n0, _, rfl, hcp, _⟩ := hx1
  refine slice_sound (n := n) (A := A) (cp := cp) (sz := sz) (G := fun a m => ∃ lo' n', v = .vw r sz lo' n' ∧ lo'.val = l0.val + a.val ∧ n'.val = m.val - a.val) hT h hd hok hsz n0 hcp hlo hhi ?_ ?_ hn
  · rintro a' m ⟨lo', n', rfl, e1, e2⟩ g0 g1 g2
    exact vw_part hx g0 g1 g2 e1 e2
  · unfold opView at hop
    split at hop
    · obtain ⟨rfl, rfl⟩ := R.ok.inj hop
      exact .inl ⟨rfl, rfl, rfl, _, _, rfl, by simp [I.val], by simp [I.val]⟩
    · split at hop
      case h_2 => cases hop
      rename_i na nb ha hb
      obtain ⟨rfl, rfl⟩ := R.ok.inj hop
      exact .inr (.inl ⟨_, _, na, nb, rfl, rfl, ha, hb, rfl, _, _, rfl, addI_val _ _, subI_val _ _⟩)
    · split at hop
      case h_2 => cases hop
      rename_i na nb ha hb
      obtain ⟨rfl, rfl⟩ := R.ok.inj hop
      exact .inr (.inr (.inl ⟨_, _, na, nb, rfl, rfl, ha, hb, rfl, _, _, rfl, by simp [I.val], by simp [I.val]⟩))
    · split at hop
      case h_2 => cases hop
      rename_i na nb nc ha hb hc
      obtain ⟨rfl, rfl⟩ := R.ok.inj hop
      exact .inr (.inr (.inr ⟨_, _, _, _, na, nb, nc, rfl, rfl, ha, hb, hc, rfl, _, _, rfl, addI_val _ _, subI_val _ _⟩))
    · cases hop
/-- A row of one's own, as a part of itself. -/
theorem own_vw (h : Holds w0 fp c s a) {r : Nat} {b : Row} {u : Value} (hb : s.rows[r]? = some b) (hl : b.live = true) (hx : RV c (.own r) u) : RV c (.vw r b.t.size (.l 0) b.n) u := by
  have hr := h.rows r b hb hl
  obtain ⟨us, ho, _⟩ := hr.at_
  have hlen := hr.len
  simp only [RV] at hx ⊢
  obtain ⟨hlt, rfl, _⟩ := hx
  have hn : b.n.val.toNat = b.l.length := by omega
  rcases ho.at_ with ⟨hv, hz⟩ | ⟨_, hz, A, cp, hv, hcm⟩ | ⟨g, o, cap, hv, h1, h2, _⟩
  · exact ⟨hlt, none, 0, 0, none, 0, hv, .inl rfl, by simp [I.val], by omega, by rw [hn, hz]; simp [I.val], by rw [hv, hn, hz], by omega, by simp, fun _ => rfl, by simp [I.val]⟩
  · exact ⟨hlt, A, 0, cp, A, cp, hv, .inl rfl, by simp [I.val], by omega, by rw [hn, hz]; simp [I.val], by rw [hv, hn, hz], by omega, hcm, (fun _ => by cases A <;> simp [I.val, Addr.add]), by simp [I.val]⟩
  · exact ⟨hlt, some ⟨g, o, none⟩, b.l.length, cap, some ⟨g, o, none⟩, cap, hv, .inr ⟨g, o, rfl⟩, by simp [I.val], by omega, by rw [hn]; simp [I.val], by rw [hv, hn], by omega, h2, (fun _ => by simp [I.val, Addr.add]), by simp [I.val]⟩

theorem push_fold : ∀ (ns : List Int) (s : ByteArray), ns.foldl (fun r n => r.push (UInt8.ofNat n.toNat)) s = ⟨s.data ++ (ns.map fun n => UInt8.ofNat n.toNat).toArray⟩
  | [], s => by simp
  | n :: ns, s => by
    rw [List.foldl_cons, push_fold ns]
    simp [ByteArray.push]
theorem mkS_fold (l : List Int) : mkS l = l.foldl (fun r n => r.push (UInt8.ofNat n.toNat)) ByteArray.empty := by
  rw [push_fold]
  simp [mkS]
theorem bytes_cells {c : C} : ∀ {l : List Int} {us : List Value}, RpL (Rp c (.i .u8)) l us → us = l.map (Value.int .u8)
  | [], us, h => h
  | x :: l, us, h => by
    obtain ⟨u1, u2, rfl, h1, h2⟩ := h
    simp only [Rp] at h1
    rw [h1, bytes_cells h2]
    rfl
theorem Did.eql {o : Oper} {t : TypeId} {b : BinOp} {x y : Operand} {yt : TypeId} (h : Holds w0 fp c s a) (ho : o.op = .binOp b t x y yt) {u v : Value} (hu : a.eval x = u) (hv : a.eval y = v) {r : Bool} {w : V} (hg : ∀ (w' : World) o, (eqGuard o t x y u v).run P w' = .ok () w') (hb : b = .eql ∨ b = .neq)
    (he : ∀ w' : World, (binOp .eql t u v).run P w' = .ok (.bool r) w') (hn : ∀ w' : World, (binOp .neq t u v).run P w' = .ok (.bool (!r)) w') (hw : RV c w (.bool (if b = .eql then r else !r))) : Did P w0 fp c s s a o w := by
  rcases hb with rfl | rfl
  · refine Did.of (f := do eqGuard .eql t x y (a.eval x) (a.eval y); binOp .eql t (a.eval x) (a.eval y)) (by simp only [execOp, ho]) (by rw [ho]; exact ⟨(fun h => by first | exact .inl rfl | exact .inr rfl | cases h), (by first | exact .inl rfl | exact .inr rfl)⟩) (h.still (u := .bool r) ?_ (by simpa using hw))
    intro w' _
    simp only [hu, hv, Sem.run_bind, hg, Result.andThen_ok, he]
  · refine Did.of (f := do eqGuard .neq t x y (a.eval x) (a.eval y); binOp .neq t (a.eval x) (a.eval y)) (by simp only [execOp, ho]) (by rw [ho]; exact ⟨(fun h => by first | exact .inl rfl | exact .inr rfl | cases h), (by first | exact .inl rfl | exact .inr rfl)⟩) (h.still (u := .bool (!r)) ?_ (by simpa using hw))
    intro w' _
    simp only [hu, hv, Sem.run_bind, hg, Result.andThen_ok, hn]

set_option maxHeartbeats 4000000 in
include hT in
theorem opX_sound (h : Holds w0 fp c s a) {o : Oper} {v : V} {s' : S} (hop : opX T s o.op = .ok v s') (hn : needsOK s'.needs) : Did P w0 fp c s s' a o v := by
  have hev := RV.ev (c := c) (s := s) (a := a) h.tmps
  cases ho : o.op with
  | binOp b t x y yt =>
    rw [ho] at hop
    simp only [opX] at hop
    have hx := hev x
    have hy := hev y
    have hd := hT.desc t
    split at hop
    · rename_i fs hde
      split at hop
      case isFalse => cases hop
      rename_i hok
      rw [hde] at hd
      have hu : P.underlying t = some (.struct (P.fieldsOf t)) := hd.1
      have hag : ∀ us : Array Value, asT P t us.toList = .agg us := fun us => by simp [asT, hu, aggD]
      -- what is to be shown, of the cells
      have fin : ∀ (us vs : Array Value) (r : Bool) (w : V), (T t).eqk ≠ [] → a.eval x = .agg us → a.eval y = .agg vs → fitKs (T t).eqk us.toList = true → fitKs (T t).eqk vs.toList = true → eqUs us.toList vs.toList = r → (b = .eql ∨ b = .neq) → RV c w (.bool (if b = .eql then r else !r)) → Did P w0 fp c s s a o w := fun us vs r w hne hus hvs f1 f2 f3 hb hw => by
        obtain ⟨he1, he2⟩ := (hT.ok t hok).eq hne
        have hrun := fun w' => eqB_run 6 10000 t _ (by omega) he1 w' _ _ f1 f2
        simp only [hag] at hrun
        exact Did.eql h ho hus hvs (fun w' o => run_eqGuard_agg (P := P) w' o t x y us vs he2) hb (fun w' => by simp only [run_eql_struct, hrun, f3, Result.andThen_ok]) (fun w' => by simp only [run_neq_struct, hrun, f3, Result.andThen_ok]) hw
      split at hop
      · rename_i q qa a' qb b' hq hxe hye
        split at hop
        case isFalse => cases hop
        rename_i hqq
        rw [hxe] at hx
        rw [hye] at hy
        simp only [RV] at hx hy
        obtain ⟨us, hus, hx⟩ := hx
        obtain ⟨vs, hvs, hy⟩ := hy
        obtain ⟨_, _, _, hk⟩ := hT.tpOK hok hq
        split at hop
        · rename_i k ks hks
          obtain ⟨rfl, rfl⟩ := R.ok.inj hop
          obtain ⟨f1, f2, f3⟩ := kds_sound (hk (by rw [hks]; simp)) (hx.cast hqq.1) (hy.cast hqq.2)
          exact fin us vs _ _ (by rw [hks]; simp) hus hvs f1 f2 f3 (.inl rfl) (by simp [RV, B.val])
        · rename_i k ks hks
          obtain ⟨rfl, rfl⟩ := R.ok.inj hop
          obtain ⟨f1, f2, f3⟩ := kds_sound (hk (by rw [hks]; simp)) (hx.cast hqq.1) (hy.cast hqq.2)
          exact fin us vs _ _ (by rw [hks]; simp) hus hvs f1 f2 f3 (.inr rfl) (by simp [RV, B.val])
        · cases hop
      · split at hop
        case h_2 => cases hop
        rename_i l l' hl hl'
        obtain ⟨us, hus, hx⟩ := aggOf_sound hx hl
        obtain ⟨vs, hvs, hy⟩ := aggOf_sound hy hl'
        split at hop
        · cases hop
        rename_i k ks hk
        split at hop
        case h_2 => cases hop
        rename_i r hr
        obtain ⟨f1, f2, f3⟩ := eqCells_sound hx hy hr
        rw [← hk] at f1 f2
        split at hop
        · obtain ⟨rfl, rfl⟩ := R.ok.inj hop
          exact fin us vs _ _ (by rw [hk]; simp) hus hvs f1 f2 f3 (.inl rfl) (by simp [RV])
        · obtain ⟨rfl, rfl⟩ := R.ok.inj hop
          exact fin us vs _ _ (by rw [hk]; simp) hus hvs f1 f2 f3 (.inr rfl) (by simp [RV, bNot_val])
        · cases hop
    · rename_i hde
      rw [hde] at hd
      have hu : P.underlying t = some .bool := hd
      split at hop
      case h_2 => cases hop
      rename_i p q hxe hye
      rw [hxe] at hx
      rw [hye] at hy
      have f3' : ∀ r, eqCell .b (.b p) (.b q) = some r → eqU (a.eval x) (a.eval y) = r.val := fun r hr => (eqCell_sound (k := .b) hx hy hr).2.2
      simp only [RV] at hx hy
      rw [hx, hy] at f3'
      have hrun : ∀ w' : World, (Op.equal t (.bool p.val) (.bool q.val)).run P w' = .ok (p.val == q.val) w' := by
        exact fun w' => run_equalIn_bool w' 9999 t p.val q.val hu
      have hg : ∀ (w' : World) o, (eqGuard o t x y (.bool p.val) (.bool q.val)).run P w' = .ok () w' := fun w' o => by cases o <;> rfl
      split at hop
      · rename_i r hr
        obtain ⟨rfl, rfl⟩ := R.ok.inj hop
        have f3 : (p.val == q.val) = r.val := f3' r hr
        exact Did.eql (r := r.val) h ho hx hy hg (.inl rfl) (fun w' => by simp [binOp, hrun, f3]) (fun w' => by simp [binOp, hrun, f3]) (by simp [RV])
      · rename_i r hr
        obtain ⟨rfl, rfl⟩ := R.ok.inj hop
        have f3 : (p.val == q.val) = r.val := f3' r hr
        exact Did.eql (r := r.val) h ho hx hy hg (.inr rfl) (fun w' => by simp [binOp, hrun, f3]) (fun w' => by simp [binOp, hrun, f3]) (by simp [RV, bNot_val])
      · cases hop
    · cases hop
  | slice t x lo hi mx =>
    rw [ho] at hop
    cases mx with
    | some m => simp [opX] at hop
    | none =>
      have hopt : ∀ z : Option Operand, (z.map (ev s) = none ∧ z.map a.eval = none) ∨ ∃ x y, z.map (ev s) = some x ∧ z.map a.eval = some y ∧ RV c x y := fun z => by
        cases z with
        | none => exact .inl ⟨rfl, rfl⟩
        | some q => exact .inr ⟨_, _, rfl, rfl, hev q⟩
      have hx := hev x
      have fin : Tells P w0 fp c s s' a (.free []) (fun w => (Instr.sliceAt t (a.eval x) (lo.map a.eval) (hi.map a.eval) none).run P w) v := by
        simp only [opX] at hop
        split at hop
        · rename_i e q n l hde hxe
          split at hop
          case isFalse => cases hop
          rename_i hc
          simp only [Bool.and_eq_true, beq_iff_eq] at hc
          rw [hxe] at hx
          exact cut_sound hT h hde hc.1 hc.2 hx (hopt lo) (hopt hi) hop hn
        · rename_i e r hde hxe
          rw [hxe] at hx
          cases hb : s.rows[r]? with
          | none => simp [hb] at hop
          | some b =>
            simp only [hb] at hop
            split at hop
            case isFalse => cases hop
            rename_i hc
            simp only [Bool.and_eq_true, beq_iff_eq] at hc
            exact view_sound hT h hde hc.1.1 hc.1.2 (own_vw h hb hc.2 hx) (hopt lo) (hopt hi) hop hn
        · rename_i e r sz l0 n hde hxe
          split at hop
          case isFalse => cases hop
          rename_i hc
          simp only [Bool.and_eq_true, beq_iff_eq] at hc
          rw [hxe] at hx
          exact view_sound hT h hde hc.1 hc.2 hx (hopt lo) (hopt hi) hop hn
        · cases hop
      exact Did.of (f := Instr.sliceAt t (a.eval x) (lo.map a.eval) (hi.map a.eval) none) (by simp only [execOp, ho]; rfl) (by rw [ho]; exact ⟨(fun h => by first | exact .inl rfl | exact .inr rfl | cases h), (by first | exact .inl rfl | exact .inr rfl)⟩) fin
  | convert ta tb x =>
    rw [ho] at hop
    simp only [opX] at hop
    split at hop
    case h_2 => cases hop
    rename_i e hda hdb
    split at hop
    case h_2 => cases hop
    rename_i hde
    split at hop
    case h_2 => cases hop
    rename_i m ms ht
    have d1 := hT.desc ta
    have d2 := hT.desc tb
    have d3 := hT.desc e
    rw [hda] at d1
    rw [hdb] at d2
    rw [hde] at d3
    obtain ⟨A, cp, news, hu, _, _, _, hR, hnews⟩ := tailOf_sound h (hev x) ht
    obtain ⟨rfl, rfl⟩ := R.ok.inj hop
    have hb := bytes_cells hR
    subst hb
    refine Did.of (q := .free (readsV (ev s x))) (f := convert ta tb (a.eval x)) (by simp only [execOp, ho]) (by rw [ho]; exact ⟨(fun h => by first | exact .inl rfl | exact .inr rfl | cases h), (by first | exact .inl rfl | exact .inr rfl)⟩) (h.still (u := .string (mkS ms)) ?_ (by simp [RV]))
    intro w' hw'
    rw [hu, run_convert_bytes_string w' ta tb e _ _ _ d1 d3 d2, mkS_fold]
    rcases hnews with rfl | ⟨g, o, rfl, hc, hown⟩
    · cases A with
      | none => simp [Conv.bytesToString]
      | some ad =>
        refine run_bytesToString w' ad _ _ [] ?_
        have := run_loadCells_list (P := P) w' ad [] (fun j v hj => by simp at hj)
        simpa using this
    · refine run_bytesToString w' ⟨g, o, none⟩ _ _ ms ?_
      have := run_loadCells_list (P := P) w' ⟨g, o, none⟩ (ms.map (Value.int .u8)) (fun j v hj => by
        rw [add_at]
        refine cell_of_spot (hw' _ _ ?_) (hc j v hj)
        rcases hown j (List.getElem?_eq_some_iff.1 hj).1 with q | ⟨r, hr, q⟩
        · exact .inl q
        · refine .inr ⟨.r r, ?_, q⟩
          rcases hr with e | ⟨sz, lo, n, e⟩ <;> rw [e] <;> simp [readsV])
      simpa using this
  | call cl =>
    rw [ho] at hop
    obtain ⟨callee, args, argTypes⟩ := cl
    cases callee with
    | builtin b =>
      cases b with
      | max =>
        simp only [opX] at hop
        split at hop
        case h_2 => cases hop
        rename_i x y hargs
        have ha : args = #[x, y] := by apply Array.ext'; simpa using hargs
        subst ha
        have hx := hev x
        have hy := hev y
        split at hop
        · rename_i k p k' q hxe hye
          split at hop
          case isFalse => cases hop
          rename_i hk
          obtain rfl : k = k' := by simpa using hk
          obtain ⟨rfl, rfl⟩ := R.ok.inj hop
          rw [hxe] at hx
          rw [hye] at hy
          simp only [RV, Ival_l] at hx hy
          exact Did.still h (u := .int k (if p < q then q else p)) (fun w' _ => by simp [execOp, ho, resolve, invoke, builtin, hx, hy, Builtin.max_, Builtin.max2]) (by simp [RV, Ival_l])
        · rename_i k p k' q _ hxe hye
          split at hop
          case isFalse => cases hop
          rename_i hk
          obtain rfl : k = k' := by simpa using hk
          obtain ⟨rfl, rfl⟩ := R.ok.inj hop
          rw [hxe] at hx
          rw [hye] at hy
          simp only [RV] at hx hy
          exact Did.still h (u := .int k (if p.val < q.val then q.val else p.val)) (fun w' _ => by simp [execOp, ho, resolve, invoke, builtin, hx, hy, Builtin.max_, Builtin.max2]) (by simp [RV, Ival_s])
        · cases hop
      | min =>
        simp only [opX] at hop
        split at hop
        case h_2 => cases hop
        rename_i x y hargs
        have ha : args = #[x, y] := by apply Array.ext'; simpa using hargs
        subst ha
        have hx := hev x
        have hy := hev y
        split at hop
        · rename_i k p k' q hxe hye
          split at hop
          case isFalse => cases hop
          rename_i hk
          obtain rfl : k = k' := by simpa using hk
          obtain ⟨rfl, rfl⟩ := R.ok.inj hop
          rw [hxe] at hx
          rw [hye] at hy
          simp only [RV, Ival_l] at hx hy
          exact Did.still h (u := .int k (if q < p then q else p)) (fun w' _ => by simp [execOp, ho, resolve, invoke, builtin, hx, hy, Builtin.min_, Builtin.min2]) (by simp [RV, Ival_l])
        · rename_i k p k' q _ hxe hye
          split at hop
          case isFalse => cases hop
          rename_i hk
          obtain rfl : k = k' := by simpa using hk
          obtain ⟨rfl, rfl⟩ := R.ok.inj hop
          rw [hxe] at hx
          rw [hye] at hy
          simp only [RV] at hx hy
          exact Did.still h (u := .int k (if q.val < p.val then q.val else p.val)) (fun w' _ => by simp [execOp, ho, resolve, invoke, builtin, hx, hy, Builtin.min_, Builtin.min2]) (by simp [RV, Ival_s])
        · cases hop
      | _ => cases hop
    | _ => cases hop
  | _ => rw [ho] at hop; cases hop

end
end Go.Fx
