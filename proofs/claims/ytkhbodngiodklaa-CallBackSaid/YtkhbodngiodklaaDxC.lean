/- Columns: what is read of rows that are joined, shifted, written to. -/
import Derived.Test.YtkhbodngiodklaaDxP
set_option linter.all false
namespace Go.Dx
open Go Go.RowKit

theorem natI_val (i : I) : natI i = i.val.toNat := by cases i <;> rfl
theorem addI_val (a b : I) : (addI a b).val = a.val + b.val := by
  unfold addI; split <;> (try split) <;> simp_all [I.val]
theorem subI_val (a b : I) : (subI a b).val = a.val - b.val := by
  unfold subI; split <;> (try split) <;> simp_all [I.val]
theorem flat_length {α : Type} (sz : Nat) (get : Nat → Nat → α) : ∀ n, ((List.range n).flatMap fun i => (List.range sz).map (get i)).length = n * sz
  | 0 => by simp
  | n + 1 => by
    rw [List.range_succ, List.flatMap_append, List.length_append, flat_length sz get n]
    simp [Nat.add_mul]
theorem flat_get {α : Type} (sz : Nat) (get : Nat → Nat → α) : ∀ n i q, i < n → q < sz → ((List.range n).flatMap fun i => (List.range sz).map (get i))[i * sz + q]? = some (get i q)
  | 0, i, q, h, _ => by omega
  | n + 1, i, q, h, hq => by
    rw [List.range_succ, List.flatMap_append]
    by_cases hi : i < n
    · have hle : (i + 1) * sz ≤ n * sz := Nat.mul_le_mul_right sz hi
      rw [Nat.add_mul] at hle
      rw [List.getElem?_append_left (by rw [flat_length]; omega)]
      exact flat_get sz get n i q hi hq
    · obtain rfl : i = n := by omega
      rw [List.getElem?_append_right (by rw [flat_length]; omega), flat_length]
      simp [hq]
theorem flat_seg {α : Type} {n sz i j k : Nat} (get : Nat → Nat → α) (hi : i < n) (hk : j + k ≤ sz) :
    (((List.range n).flatMap fun i => (List.range sz).map (get i)).drop (i * sz + j)).take k = (List.range k).map fun q => get i (j + q) := by
  apply List.ext_getElem?
  intro q
  rw [List.getElem?_take]
  split
  · rename_i hq
    rw [List.getElem?_drop, Nat.add_assoc, flat_get sz get n i (j + q) hi (by omega)]
    simp [hq]
  · rename_i hq
    simp [hq]

theorem RCs.length {c : C} : ∀ {vs : List V} {us : List Value}, RCs c vs us → us.length = vs.length
  | [], us, h => by simp only [RCs] at h; simp [h]
  | v :: vs, us, h => by
    simp only [RCs] at h
    obtain ⟨u, us', rfl, _, h2⟩ := h
    simp [RCs.length h2]
theorem RCs.get {c : C} : ∀ {vs : List V} {us : List Value} (i : Nat) {u : Value}, RCs c vs us → us[i]? = some u → ∃ v, vs[i]? = some v ∧ RC c v u
  | [], us, i, u, h, hu => by simp only [RCs] at h; subst h; simp at hu
  | v :: vs, us, 0, u, h, hu => by
    simp only [RCs] at h
    obtain ⟨u0, us1, rfl, h1, h2⟩ := h
    simp at hu; subst hu
    exact ⟨v, rfl, h1⟩
  | v :: vs, us, i + 1, u, h, hu => by
    simp only [RCs] at h
    obtain ⟨u0, us1, rfl, h1, h2⟩ := h
    simpa using RCs.get i h2 (by simpa using hu)
theorem RCs.of_get {c : C} : ∀ {vs : List V} {us : List Value}, us.length = vs.length → (∀ (i : Nat) v u, vs[i]? = some v → us[i]? = some u → RC c v u) → RCs c vs us
  | [], us, hl, _ => by simp only [RCs]; exact List.eq_nil_of_length_eq_zero (by simpa using hl)
  | v :: vs, [], hl, _ => by simp at hl
  | v :: vs, u :: us, hl, h => by
    simp only [RCs]
    exact ⟨u, us, rfl, h 0 v u rfl rfl, RCs.of_get (by simpa using hl) (fun i v' u' h1 h2 => h (i + 1) v' u' (by simpa using h1) (by simpa using h2))⟩
theorem RCs.append {c : C} : ∀ {vs : List V} {us : List Value} {vs' : List V} {us' : List Value}, RCs c vs us → RCs c vs' us' → RCs c (vs ++ vs') (us ++ us')
  | [], us, vs', us', h, h' => by simp only [RCs] at h; subst h; simpa using h'
  | v :: vs, us, vs', us', h, h' => by
    simp only [RCs] at h
    obtain ⟨u, us1, rfl, h1, h2⟩ := h
    simp only [List.cons_append, RCs]
    exact ⟨u, _, rfl, h1, RCs.append h2 h'⟩
/-- By columns: place by place. -/
theorem RCs_flat {c : C} {n sz : Nat} {get : Nat → Nat → V} {us : List Value} (hl : us.length = n * sz) (h : ∀ i j u, i < n → j < sz → us[i * sz + j]? = some u → RC c (get i j) u) : RCs c ((List.range n).flatMap fun i => (List.range sz).map (get i)) us := by
  refine RCs.of_get (by rw [flat_length]; exact hl) (fun p v u hv hu => ?_)
  have hp : p < n * sz := by rw [← hl]; exact (List.getElem?_eq_some_iff.1 hu).1
  have hs : 0 < sz := by rcases Nat.eq_zero_or_pos sz with h0 | h0; · subst h0; simp at hp
                         · exact h0
  have e1 : p / sz * sz + p % sz = p := by rw [Nat.mul_comm]; exact Nat.div_add_mod p sz
  have hg := flat_get sz get n (p / sz) (p % sz) (Nat.div_lt_of_lt_mul (by rw [Nat.mul_comm]; exact hp)) (Nat.mod_lt _ hs)
  rw [e1, hv] at hg
  obtain rfl := Option.some.inj hg
  exact h _ _ u (Nat.div_lt_of_lt_mul (by rw [Nat.mul_comm]; exact hp)) (Nat.mod_lt _ hs) (by rw [e1]; exact hu)
theorem RCs_flat_get {c : C} {n sz : Nat} {get : Nat → Nat → V} {us : List Value} (h : RCs c ((List.range n).flatMap fun i => (List.range sz).map (get i)) us) {i j : Nat} (hi : i < n) (hj : j < sz) : ∃ u, us[i * sz + j]? = some u ∧ RC c (get i j) u := by
  have hl := h.length
  rw [flat_length] at hl
  have hlt : i * sz + j < us.length := by
    have : (i + 1) * sz ≤ n * sz := Nat.mul_le_mul_right sz hi
    rw [Nat.add_mul] at this
    omega
  obtain ⟨v, hv, hr⟩ := h.get (i * sz + j) (List.getElem?_eq_getElem hlt)
  rw [flat_get sz get n i j hi hj] at hv
  obtain rfl := Option.some.inj hv
  exact ⟨_, List.getElem?_eq_getElem hlt, hr⟩

/-! ### A list's columns -/
theorem asI_get {k : IntKind} : ∀ {l : List V} {x : List Int} (i : Nat) {v : V}, asI k l = some x → l[i]? = some v → ∃ n, v = .i k n ∧ x[i]? = some n.val
  | [], x, i, v, _, hv => by simp at hv
  | w :: l, x, i, v, h, hv => by
    cases w with
    | i k' n =>
      simp only [asI] at h
      split at h
      case isFalse => cases h
      rename_i hk
      obtain rfl : k = k' := by simpa using hk
      simp only [Option.map_eq_some_iff] at h
      obtain ⟨y, hy, rfl⟩ := h
      cases i with
      | zero => simp at hv; subst hv; exact ⟨n, rfl, rfl⟩
      | succ i => simpa using asI_get i hy (by simpa using hv)
    | _ => simp [asI] at h
theorem asB_get : ∀ {l : List V} {x : List Bool} (i : Nat) {v : V}, asB l = some x → l[i]? = some v → ∃ n, v = .b n ∧ x[i]? = some n.val
  | [], x, i, v, _, hv => by simp at hv
  | w :: l, x, i, v, h, hv => by
    cases w with
    | b n =>
      simp only [asB, Option.map_eq_some_iff] at h
      obtain ⟨y, hy, rfl⟩ := h
      cases i with
      | zero => simp at hv; subst hv; exact ⟨n, rfl, rfl⟩
      | succ i => simpa using asB_get i hy (by simpa using hv)
    | _ => simp [asB] at h
theorem asS_get : ∀ {l : List V} {x : List ByteArray} (i : Nat) {v : V}, asS l = some x → l[i]? = some v → ∃ n, v = .v (.string n) ∧ x[i]? = some n
  | [], x, i, v, _, hv => by simp at hv
  | w :: l, x, i, v, h, hv => by
    cases w with
    | v z =>
      cases z with
      | string n =>
        simp only [asS, Option.map_eq_some_iff] at h
        obtain ⟨y, hy, rfl⟩ := h
        cases i with
        | zero => simp at hv; subst hv; exact ⟨n, rfl, rfl⟩
        | succ i => simpa using asS_get i hy (by simpa using hv)
      | _ => simp [asS] at h
    | _ => simp [asS] at h
theorem colOf_sound {c : C} {l : List V} {i : Nat} {v : V} {u : Value} (hv : l[i]? = some v) (hr : RC c v u) : RC c ((colOf l).at i) u := by
  unfold colOf
  split
  · split
    · rename_i x hx
      obtain ⟨n, rfl, hn⟩ := asI_get i hx hv
      simp only [Col.at, FCol.at, RC, List.getD, hn, I.val, Option.getD_some] at hr ⊢
      exact hr
    · simp [Col.at, RC]
  · split
    · rename_i x hx
      obtain ⟨n, rfl, hn⟩ := asB_get i hx hv
      simp only [Col.at, FCol.at, RC, List.getD, hn, B.val, Option.getD_some] at hr ⊢
      exact hr
    · simp [Col.at, RC]
  · split
    · rename_i x hx
      obtain ⟨n, rfl, hn⟩ := asS_get i hx hv
      simp only [Col.at, FCol.at, RC, List.getD, hn, Option.getD_some] at hr ⊢
      exact hr
    · simp [Col.at, RC]
  · simp [Col.at, RC]
theorem every_get (sz : Nat) : ∀ (n j : Nat) (l : List V) (i : Nat), i < n → (every sz n j l)[i]? = some (l.getD (i * sz + j) .junk)
  | 0, _, _, _, h => by omega
  | n + 1, j, l, 0, _ => by simp [every]
  | n + 1, j, l, i + 1, h => by
    simp only [every, List.getElem?_cons_succ]
    rw [every_get sz n (j + sz) l i (by omega)]
    congr 2
    rw [Nat.add_mul]; omega
theorem colsOf_sound {c : C} {n sz : Nat} {l : List V} {us : List Value} (hl : us.length = n * sz) (h : RCs c l us) : RCs c ((List.range n).flatMap fun i => (List.range sz).map (getC (colsOf sz l) i)) us := by
  refine RCs_flat hl (fun i j u hi hj hu => ?_)
  have hn : l.length / sz = n := by rw [← h.length, hl]; exact Nat.mul_div_cancel _ (by omega)
  obtain ⟨v, hv, hr⟩ := h.get _ hu
  have he := every_get sz n j l i hi
  simp only [List.getD, hv, Option.getD_some] at he
  have hc : (colsOf sz l).getD j .j = colOf (every sz n j l) := by simp [colsOf, List.getD, hj, hn]
  unfold getC
  rw [hc]
  exact colOf_sound he hr
theorem Ct.cols'_sound {c : C} {n sz : Nat} {ct : Ct} {us : List Value} (hl : us.length = n * sz) (h : RCs c (ct.cells n sz) us) : RCs c ((List.range n).flatMap fun i => (List.range sz).map (getC (ct.cols' sz) i)) us := by
  cases ct with
  | list l => exact colsOf_sound hl h
  | cols cs => exact h

/-! ### Joined -/
theorem FCol.cat_lo {c : C} {n i : Nat} {p q : FCol} {u : Value} (hi : i < n) (h : RC c (p.at i) u) : RC c ((p.cat n q).at i) u := by
  unfold FCol.cat
  split
  · split
    · simpa [Col.at, FCol.at, catF, hi] using h
    · simp [Col.at, RC]
  · simpa [Col.at, FCol.at, catF, hi] using h
  · simpa [Col.at, FCol.at, catF, hi] using h
  · simp [Col.at, RC]
theorem FCol.cat_hi {c : C} {n i : Nat} {p q : FCol} {u : Value} (hi : ¬ i < n) (h : RC c (q.at (i - n)) u) : RC c ((p.cat n q).at i) u := by
  unfold FCol.cat
  split
  · split
    · rename_i hk
      obtain rfl := eq_of_beq hk
      simpa [Col.at, FCol.at, catF, hi] using h
    · simp [Col.at, RC]
  · simpa [Col.at, FCol.at, catF, hi] using h
  · simpa [Col.at, FCol.at, catF, hi] using h
  · simp [Col.at, RC]
theorem FCol2.cat_at {n i : Nat} {p q r : FCol2} (h : p.cat n q = some r) : r.at i = if i < n then p.at i else q.at (i - n) := by
  unfold FCol2.cat at h
  split at h
  · split at h
    case isFalse => cases h
    rename_i hk
    obtain rfl := eq_of_beq hk
    obtain rfl := Option.some.inj h
    by_cases hi : i < n <;> simp [FCol2.at, catF, hi]
  · obtain rfl := Option.some.inj h
    by_cases hi : i < n <;> simp [FCol2.at, catF, hi]
  · obtain rfl := Option.some.inj h
    by_cases hi : i < n <;> simp [FCol2.at, catF, hi]
  · cases h
theorem catSl_at {n i : Nat} : ∀ {cs ds xs : List FCol2}, catSl n cs ds = some xs → xs.length = cs.length ∧ xs.length = ds.length ∧ (xs.map fun c => Col.f (c.at i)) = if i < n then cs.map (fun c => Col.f (c.at i)) else ds.map (fun c => Col.f (c.at (i - n)))
  | [], [], xs, h => by
    simp only [catSl, Option.some.injEq] at h
    subst h
    simp
  | p :: cs, q :: ds, xs, h => by
    simp only [catSl] at h
    split at h
    · rename_i x xs' h1 h2
      obtain rfl := Option.some.inj h
      obtain ⟨g1, g2, g3⟩ := catSl_at (i := i) h2
      have := FCol2.cat_at (i := i) h1
      refine ⟨by simp [g1], by simp [g2], ?_⟩
      simp only [List.map_cons, g3, this]
      split <;> rfl
    · cases h
  | [], _ :: _, xs, h => by simp [catSl] at h
  | _ :: _, [], xs, h => by simp [catSl] at h
theorem Col.cat_lo {c : C} {n i : Nat} {p q : Col} {u : Value} (hi : i < n) (h : RC c (p.at i) u) : RC c ((p.cat n q).at i) u := by
  unfold Col.cat
  split
  · exact FCol.cat_lo hi (by simpa only [Col.at] using h)
  · split
    · rename_i xs hx
      obtain ⟨g1, g2, g3⟩ := catSl_at (i := i) hx
      simp only [Col.at, g1, g3, hi, if_true, catF] at h ⊢
      exact h
    · simp [Col.at, RC]
  · simp [Col.at, RC]
theorem Col.cat_hi {c : C} {n i : Nat} {p q : Col} {u : Value} (hi : ¬ i < n) (h : RC c (q.at (i - n)) u) : RC c ((p.cat n q).at i) u := by
  unfold Col.cat
  split
  · exact FCol.cat_hi hi (by simpa only [Col.at] using h)
  · split
    · rename_i xs hx
      obtain ⟨g1, g2, g3⟩ := catSl_at (i := i) hx
      simp only [Col.at, g2, g3, hi, if_false, catF] at h ⊢
      exact h
    · simp [Col.at, RC]
  · simp [Col.at, RC]
theorem catCols_getD (n : Nat) : ∀ (cs ds : List Col) (j : Nat), (catCols n cs ds).getD j .j = if j < cs.length ∧ j < ds.length then (cs.getD j .j).cat n (ds.getD j .j) else .j
  | [], ds, j => by simp [catCols]
  | c :: cs, [], j => by simp [catCols]
  | c :: cs, d :: ds, 0 => by simp [catCols]
  | c :: cs, d :: ds, j + 1 => by
    have := catCols_getD n cs ds j
    simpa [catCols] using this
theorem getC_cat_lo {c : C} {n i j : Nat} {cs ds : List Col} {u : Value} (hi : i < n) (h : RC c (getC cs i j) u) : RC c (getC (catCols n cs ds) i j) u := by
  unfold getC at *
  rw [catCols_getD]
  split
  · exact Col.cat_lo hi h
  · simp [Col.at, RC]
theorem getC_cat_hi {c : C} {n i j : Nat} {cs ds : List Col} {u : Value} (hi : ¬ i < n) (h : RC c (getC ds (i - n) j) u) : RC c (getC (catCols n cs ds) i j) u := by
  unfold getC at *
  rw [catCols_getD]
  split
  · exact Col.cat_hi hi h
  · simp [Col.at, RC]
theorem Ct.cat_sound {c : C} {n m : I} {sz : Nat} {a b : Ct} {us vs : List Value} (h0 : 0 ≤ n.val) (h1 : 0 ≤ m.val) (hu : us.length = n.val.toNat * sz) (hv : vs.length = m.val.toNat * sz)
    (ha : RCs c (a.cells n.val.toNat sz) us) (hb : RCs c (b.cells m.val.toNat sz) vs) : RCs c ((Ct.cat n m sz a b).cells (n.val.toNat + m.val.toNat) sz) (us ++ vs) := by
  have cols : RCs c ((Ct.cols (catCols (natI n) (a.cols' sz) (b.cols' sz))).cells (n.val.toNat + m.val.toNat) sz) (us ++ vs) := by
    refine RCs_flat (by rw [List.length_append, hu, hv, Nat.add_mul]) (fun i j u hi hj hq => ?_)
    rw [natI_val]
    by_cases hin : i < n.val.toNat
    · refine getC_cat_lo hin ?_
      obtain ⟨u', hu', hr⟩ := RCs_flat_get (Ct.cols'_sound hu ha) hin hj
      have hlt := (List.getElem?_eq_some_iff.1 hu').1
      rw [List.getElem?_append_left hlt, hu'] at hq
      obtain rfl := Option.some.inj hq
      exact hr
    · refine getC_cat_hi hin ?_
      have hle : n.val.toNat * sz ≤ i * sz := Nat.mul_le_mul_right sz (by omega)
      obtain ⟨u', hu', hr⟩ := RCs_flat_get (Ct.cols'_sound hv hb) (i := i - n.val.toNat) (by omega) hj
      rw [List.getElem?_append_right (by rw [hu]; omega), hu] at hq
      have e : i * sz + j - n.val.toNat * sz = (i - n.val.toNat) * sz + j := by rw [Nat.sub_mul]; omega
      rw [e, hu'] at hq
      obtain rfl := Option.some.inj hq
      exact hr
  unfold Ct.cat
  split
  · exact ha.append hb
  · split
    · have : us = [] := List.eq_nil_of_length_eq_zero (by rw [hu]; simp [I.val])
      subst this
      simpa [I.val] using hb
    · have : vs = [] := List.eq_nil_of_length_eq_zero (by rw [hv]; simp [I.val])
      subst this
      simpa [I.val] using ha
    · exact cols

/-! ### Shifted -/
theorem FCol.sh_at (k i : Nat) (c : FCol) : (c.sh k).at i = c.at (k + i) := by cases c <;> rfl
theorem FCol2.sh_at (k i : Nat) (c : FCol2) : (c.sh k).at i = c.at (k + i) := by cases c <;> rfl
theorem Col.sh_at (k i : Nat) (c : Col) : (c.sh k).at i = c.at (k + i) := by
  cases c with
  | f c => exact FCol.sh_at k i c
  | sl p cs => simp [Col.sh, Col.at, shF, FCol2.sh_at]
  | j => rfl
theorem getC_sh (k : I) (cs : List Col) (i j : Nat) : getC (shI k cs) i j = getC cs (natI k + i) j := by
  have key : ∀ k' : Nat, getC (cs.map (Col.sh k')) i j = getC cs (k' + i) j := fun k' => by
    unfold getC
    by_cases hj : j < cs.length
    · simp [List.getD, hj, Col.sh_at]
    · simp [List.getD, List.getElem?_eq_none (show cs.length ≤ j by omega), Col.at]
  unfold shI
  split
  · simp [natI]
  · exact key _

/-! ### Written to -/
theorem Col.upd_at {c : C} {i : Nat} {p : Col} {v : V} {u : Value} (h : RC c v u) : RC c ((p.upd i v).at i) u := by
  unfold Col.upd
  split
  · split
    · rename_i hk
      obtain rfl := eq_of_beq hk
      simpa [Col.at, FCol.at, updF, RC, I.val] using h
    · simp [Col.at, RC]
  · simpa [Col.at, FCol.at, updF, RC, B.val] using h
  · simpa [Col.at, FCol.at, updF, RC] using h
  · simp [Col.at, RC]
theorem Col.upd_ne {c : C} {i i' : Nat} {p : Col} {v : V} {u : Value} (hi : i' ≠ i) (h : RC c (p.at i') u) : RC c ((p.upd i v).at i') u := by
  unfold Col.upd
  split
  · split
    · simpa [Col.at, FCol.at, updF, hi] using h
    · simp [Col.at, RC]
  · simpa [Col.at, FCol.at, updF, hi] using h
  · simpa [Col.at, FCol.at, updF, hi] using h
  · simp [Col.at, RC]
theorem updCols_getD (i : Nat) : ∀ (j : Nat) (cs : List Col) (vs : List V) (q : Nat), (updCols i j cs vs).getD q .j = if j ≤ q ∧ q < j + vs.length then (if q < cs.length then (cs.getD q .j).upd i (vs.getD (q - j) .junk) else .j) else cs.getD q .j
  | 0, [], vs, q => by cases vs <;> simp [updCols]
  | 0, c :: cs, [], q => by simp [updCols]
  | 0, c :: cs, v :: vs, 0 => by simp [updCols]
  | 0, c :: cs, v :: vs, q + 1 => by
    have := updCols_getD i 0 cs vs q
    simp only [updCols, List.getD_cons_succ, this]
    simp only [Nat.zero_le, Nat.zero_add, true_and, List.length_cons, Nat.add_lt_add_iff_right, Nat.sub_zero, List.getD_cons_succ]
  | j + 1, [], vs, q => by simp [updCols]
  | j + 1, c :: cs, vs, 0 => by simp [updCols]
  | j + 1, c :: cs, vs, q + 1 => by
    have := updCols_getD i j cs vs q
    simp only [updCols, List.getD_cons_succ, this]
    simp only [Nat.add_le_add_iff_right, List.length_cons, Nat.add_lt_add_iff_right, show j + 1 + vs.length = (j + vs.length) + 1 from by omega, show q + 1 - (j + 1) = q - j from by omega]
theorem updCols_sound {c : C} {n sz i j : Nat} {cs : List Col} {m : List V} {us ms : List Value} (hi : i < n) (hj : j + m.length ≤ sz) (h : RCs c ((List.range n).flatMap fun i => (List.range sz).map (getC cs i)) us) (hm : RCs c m ms) :
    RCs c ((List.range n).flatMap fun i' => (List.range sz).map (getC (updCols i j cs m) i')) (us.take (i * sz + j) ++ ms ++ us.drop (i * sz + j + m.length)) := by
  have hl := h.length
  rw [flat_length] at hl
  have hml := hm.length
  have hle : (i + 1) * sz ≤ n * sz := Nat.mul_le_mul_right sz hi
  rw [Nat.add_mul] at hle
  refine RCs_flat (by simp only [List.length_append, List.length_take, List.length_drop]; omega) (fun i' j' u hi' hj' hu => ?_)
  unfold getC
  rw [updCols_getD]
  have old : ∀ u0, us[i' * sz + j']? = some u0 → RC c ((cs.getD j' .j).at i') u0 := fun u0 h0 => by
    obtain ⟨u1, h1, hr⟩ := RCs_flat_get h hi' hj'
    rw [h0] at h1
    obtain rfl := Option.some.inj h1
    exact hr
  have hle' : (i' + 1) * sz ≤ n * sz := Nat.mul_le_mul_right sz hi'
  rw [Nat.add_mul] at hle'
  -- the place, ahead of what is written, in it, behind it
  have place : ∀ p, p < us.length → (us.take (i * sz + j) ++ ms ++ us.drop (i * sz + j + m.length))[p]? = if p < i * sz + j then us[p]? else if p < i * sz + j + m.length then ms[p - (i * sz + j)]? else us[p]? := fun p hp => by
    by_cases h1 : p < i * sz + j
    · rw [if_pos h1, List.append_assoc, List.getElem?_append_left (by simp; omega), List.getElem?_take, if_pos h1]
    · rw [if_neg h1]
      by_cases h2 : p < i * sz + j + m.length
      · rw [if_pos h2, List.append_assoc, List.getElem?_append_right (by simp; omega), List.getElem?_append_left (by simp; omega)]
        congr 1; simp; omega
      · rw [if_neg h2, List.getElem?_append_right (by simp; omega), List.getElem?_drop]
        congr 1; simp; omega
  rw [place _ (by omega)] at hu
  by_cases hii : i' = i
  · subst hii
    by_cases hin : j ≤ j' ∧ j' < j + m.length
    · rw [if_pos hin]
      rw [if_neg (by omega), if_pos (by omega)] at hu
      split
      · have e : i' * sz + j' - (i' * sz + j) = j' - j := by omega
        rw [e] at hu
        obtain ⟨v, hv, hr⟩ := hm.get _ hu
        rw [show m.getD (j' - j) .junk = v from by simp [List.getD, hv]]
        exact Col.upd_at hr
      · simp [Col.at, RC]
    · rw [if_neg hin]
      refine old u ?_
      split at hu
      · exact hu
      · split at hu
        · omega
        · exact hu
  · have hne : i' * sz + j' < i * sz + j ∨ ¬ (i' * sz + j' < i * sz + j + m.length) := by
      rcases Nat.lt_or_gt_of_ne hii with hlt | hgt
      · have := Nat.mul_le_mul_right sz (show i' + 1 ≤ i from hlt)
        rw [Nat.add_mul] at this
        left; omega
      · have := Nat.mul_le_mul_right sz (show i + 1 ≤ i' from hgt)
        rw [Nat.add_mul] at this
        right; omega
    have hu' : us[i' * sz + j']? = some u := by
      split at hu
      · exact hu
      · split at hu
        · omega
        · exact hu
    split
    · split
      · exact Col.upd_ne hii (old u hu')
      · simp [Col.at, RC]
    · exact old u hu'
end Go.Dx
