/- The steps that leave the world alone, and those that do not. -/
import Derived.Test.YtplefbcgpbdkfaaDoorFc
set_option linter.all false
namespace Go.Fx
open Go Go.RowKit

section
variable {w0 : World} {fp : Base} {c : C} {s : S} {a : Act}

theorem Holds.same (h : Holds w0 fp c s a) {s' : S} {a' : Act} (hv : s'.vars = s.vars) (hr : s'.rows = s.rows) (ht : RVs c s'.tmps a'.tmps.toList) (hd : a'.defers = []) (ho : s'.objs = s.objs := by rfl) (hlk : s'.lk = s.lk := by rfl) : Holds w0 fp c s' a' := by
  have hf : ∀ q k o, foot c s' q k o ↔ foot c s q k o := fun q k o => by cases q <;> simp [foot, hv, hr, ho]
  exact { gl := h.gl, fpk := h.fpk, lk := hlk.trans h.lk, keeps := h.keeps, eF := h.eF, eF2 := h.eF2, tmps := ht, defers := hd, nv := by rw [hv]; exact h.nv, nr := by rw [hr]; exact h.nr, nb := by rw [ho]; exact h.nb, vars := fun x b hb hl => h.vars x b (by rw [← hv]; exact hb) hl, rows := fun r b hb hl => h.rows r b (by rw [← hr]; exact hb) hl, objs := fun x b hb hl => h.objs x b (by rw [← ho]; exact hb) hl, disj := fun q q' k o h1 h2 => h.disj q q' k o ((hf _ _ _).1 h1) ((hf _ _ _).1 h2), mine := fun q k o h1 => h.mine q k o ((hf _ _ _).1 h1), free := fun q k o h1 => h.free q k o ((hf _ _ _).1 h1), flt := h.flt, ag := h.ag, ar := fun r v hr' => by rw [hr]; exact h.ar r v hr', ao := fun x v hx => by rw [ho]; exact h.ao x v hx }
theorem Holds.put (h : Holds w0 fp c s a) {v : V} {u : Value} (hv : RV c v u) (d : Option Nat) : Holds w0 fp c (s.put d v) (a.put d u) := by
  cases d with
  | none => exact h
  | some d => exact h.same rfl rfl (by have := RVs.set d h.tmps hv; simpa [S.put, Act.put] using this) h.defers
theorem Holds.needs (h : Holds w0 fp c s a) (ns : List Need) : Holds w0 fp c { s with needs := ns } a := h.same rfl rfl h.tmps h.defers
theorem Holds.bare (h : Holds w0 fp c s a) : Holds w0 fp c s.bare a := h.needs []
theorem Holds.var_lt (h : Holds w0 fp c s a) {x : Nat} {b : Var} (hb : s.vars[x]? = some b) : x < c.nv := by
  rw [h.nv]; exact (List.getElem?_eq_some_iff.1 hb).1
theorem Holds.row_lt (h : Holds w0 fp c s a) {x : Nat} {b : Row} (hb : s.rows[x]? = some b) : x < c.nr := by
  rw [h.nr]; exact (List.getElem?_eq_some_iff.1 hb).1

theorem Cells.set {w : World} {g o : Nat} {us us' : List Value} (h : Cells w g o us) (hl : us'.length = us.length) : ∃ cur el, w.heap[g]? = some (.cells cur el (0, 0)) ∧ o + us.length ≤ cur.size ∧ (cur.toList.drop o).take us.length = us ∧
    Cells (w.setRow g (cur.toList.take o ++ us' ++ cur.toList.drop (o + us.length)).toArray) g o us' ∧ Keeps w (w.setRow g (cur.toList.take o ++ us' ++ cur.toList.drop (o + us.length)).toArray) (fun k p => k = g ∧ o ≤ p ∧ p < o + us.length) := by
  obtain ⟨cur, el, hg, hle, he⟩ := h.at_
  refine ⟨cur, el, hg, hle, he, ⟨_, el, setRow_heap w g cur _ el (0, 0) hg, ?_, ?_⟩, ⟨rfl, rfl, rfl, by simp, fun k p hk hd => ?_, shape_setRow hg (by simp; omega), Nat.le_refl _⟩⟩
  · simp; omega
  · have h1 : (cur.toList.take o).length = o := by simp; omega
    show ((cur.toList.take o ++ us' ++ cur.toList.drop (o + us.length)).drop o).take us'.length = us'
    rw [List.append_assoc, List.drop_append_of_le_length (by omega), List.drop_of_length_le (by omega), List.nil_append, List.take_append_of_le_length (Nat.le_refl _), List.take_length]
  · by_cases e : k = g
    · subst e
      refine spot_setRow_same hg (by simp; omega) ?_
      have hp : p < o ∨ o + us.length ≤ p := by
        by_cases q : p < o
        · exact .inl q
        · exact .inr (Nat.le_of_not_lt fun q2 => hd ⟨rfl, by omega, q2⟩)
      show (cur.toList.take o ++ us' ++ cur.toList.drop (o + us.length)).toArray[p]? = cur[p]?
      simp only [List.getElem?_toArray, List.append_assoc, List.getElem?_append, List.length_take, List.length_drop, Array.length_toList, List.getElem?_take, List.getElem?_drop]
      rcases hp with hp | hp
      · rw [if_pos (by omega), if_pos hp]; simp
      · rw [if_neg (by omega), if_neg (by omega)]
        rw [show o + us.length + (p - min o cur.size - us'.length) = p from by omega]
        simp
    · exact spot_setRow_other w g _ p e

/-- A new variable. -/
def C.newVar (c : C) (el : TypeId) (us : List Value) : C :=
  { c with w := c.w.alloc (.cells us.toArray el), g := fun x => if x = c.nv then (c.w.heap.size, 0) else c.g x, nv := c.nv + 1 }
theorem Holds.newVar (h : Holds w0 fp c s a) (el : TypeId) {ct : Ctn} {us : List Value} (hl : RCt c ct us) (hp : 0 < ct.size) :
    C.Le c (c.newVar el us) ∧ Holds w0 fp (c.newVar el us) { s with vars := s.vars ++ [⟨true, ct⟩] } a := by
  have hk : Keeps c.w (c.newVar el us).w (fun _ _ => False) := Keeps.alloc _ _ _
  have le : c.Le (c.newVar el us) := { h.le0 (c' := c.newVar el us) hk (fun _ _ h => h.elim) rfl with
    g := fun x hx => by simp only [C.newVar]; rw [if_neg (by omega)]
    nv := Nat.le_succ _, r := fun _ _ => rfl, nr := Nat.le_refl _, ob := fun _ _ => rfl, nb := Nat.le_refl _ }
  refine ⟨le, h.turn hk (fun _ _ h => h.elim) rfl (RVs.le le _ _ h.tmps) h.defers (by simp [C.newVar, h.nv]) h.nr ?_ ?_ ?_ ?_ (fun x hx => ⟨Nat.lt_succ_of_lt hx, le.g x hx⟩) (fun r b hb hl hf => ⟨rfl, b, hb, hl, hf⟩) rfl rfl rfl rfl rfl (fun _ _ _ h => h.elim)⟩
  · intro x b hb hbl
    simp only [List.getElem?_append] at hb
    split at hb
    · rename_i hx
      exact (h.vars x b hb hbl).keep (fun k o hf => hk.spot k o (foot_lt h (q := .v x) ⟨b, hb, hbl, hf⟩) (fun h => h)) (le.g x (by rw [h.nv]; exact hx)) rfl (fun us hr => hr.le le)
    · rename_i hx
      have hxe : x = c.nv := by
        have := (List.getElem?_eq_some_iff.1 hb).1
        simp at this; rw [h.nv]; omega
      subst hxe
      rw [h.nv] at hb
      simp at hb
      subst hb
      refine ⟨hp, us, ?_, hl.le le⟩
      have hg : (c.newVar el us).g c.nv = (c.w.heap.size, 0) := by simp [C.newVar]
      rw [hg]
      exact ⟨us.toArray, el, heap_alloc_new c.w _, by simp, by simp⟩
  · intro r b hb hl'
    exact (h.rows r b hb hl').keep (fun k o hf => hk.spot k o (foot_lt h (q := .r r) ⟨b, hb, hl', hf⟩) (fun h => h)) rfl le.toLe0
  · intro q k o hq
    cases q with
    | r r => exact .inl hq
    | o x => exact .inl hq
    | v x =>
      obtain ⟨b, hb, hbl, hf⟩ := hq
      simp only [List.getElem?_append] at hb
      split at hb
      · rename_i hx
        exact .inl ⟨b, hb, hbl, by unfold varF at hf ⊢; rw [le.g x (by rw [h.nv]; exact hx)] at hf; exact hf⟩
      · rename_i hx
        have hxe : x = c.nv := by
          have := (List.getElem?_eq_some_iff.1 hb).1
          simp at this; rw [h.nv]; omega
        subst hxe
        right
        have hg : (c.newVar el us).g c.nv = (c.w.heap.size, 0) := by simp [C.newVar]
        unfold varF at hf
        rw [hg] at hf
        rw [hf.1]
        exact Nat.le_refl _
  · intro q q' k o hk' h1 h2
    have key : ∀ q, foot (c.newVar el us) { s with vars := s.vars ++ [⟨true, ct⟩] } q k o → q = .v c.nv := by
      intro q hq
      cases q with
      | r r => exact absurd (foot_lt h (q := .r r) hq) (by omega)
      | o x => exact absurd (foot_lt h (q := .o x) hq) (by omega)
      | v x =>
        obtain ⟨b, hb, hbl, hf⟩ := hq
        simp only [List.getElem?_append] at hb
        split at hb
        · rename_i hx
          have : foot c s (.v x) k o := ⟨b, hb, hbl, by unfold varF at hf ⊢; rw [le.g x (by rw [h.nv]; exact hx)] at hf; exact hf⟩
          exact absurd (foot_lt h this) (by omega)
        · rename_i hx
          have := (List.getElem?_eq_some_iff.1 hb).1
          simp at this
          rw [h.nv, show x = s.vars.length from by omega]
    rw [key q h1, key q' h2]

/-- A new row. -/
def C.newRow (c : C) (v : Value) (w' : World) : C := { c with w := w', r := fun x => if x = c.nr then v else c.r x, nr := c.nr + 1 }
theorem Holds.newRow (h : Holds w0 fp c s a) (b : Row) {v : Value} {w' : World} {us : List Value} (hk : Keeps c.w w' (fun _ _ => False)) (ho : RowAt w' b.fix b.e b.t.size v b.l.length us)
    (hn : b.n.val = b.l.length) (hc : RpL (Rp c b.t) b.l us) (hnew : ∀ k o, rowF v b.fix b.t.size k o → c.w.heap.size ≤ k) : C.Le c (c.newRow v w') ∧ Holds w0 fp (c.newRow v w') { s with rows := s.rows ++ [b] } a := by
  have le : c.Le (c.newRow v w') := { h.le0 (c' := c.newRow v w') hk (fun _ _ h => h.elim) rfl with
    g := fun _ _ => rfl, nv := Nat.le_refl _, r := fun x hx => by simp only [C.newRow]; rw [if_neg (by omega)], nr := Nat.le_succ _, ob := fun _ _ => rfl, nb := Nat.le_refl _ }
  have rnew : (c.newRow v w').r c.nr = v := by simp [C.newRow]
  have hxe : ∀ {x : Nat} {b' : Row}, (s.rows ++ [b])[x]? = some b' → ¬ x < s.rows.length → x = c.nr ∧ b' = b := fun {x b'} hb hx => by
    have h1 := (List.getElem?_eq_some_iff.1 hb).1
    simp at h1
    have : x = s.rows.length := by omega
    subst this
    simp at hb
    exact ⟨h.nr.symm, hb.symm⟩
  refine ⟨le, h.turn hk (fun _ _ h => h.elim) rfl (RVs.le le _ _ h.tmps) h.defers h.nv (by simp [C.newRow, h.nr]) ?_ ?_ ?_ ?_ (fun x hx => ⟨hx, rfl⟩) (fun r b' hb hl hf => ⟨le.r r (h.row_lt hb), b', by rw [List.getElem?_append_left (List.getElem?_eq_some_iff.1 hb).1]; exact hb, hl, hf⟩) rfl rfl rfl rfl rfl (fun _ _ _ h => h.elim)⟩
  · intro x b' hb hbl
    exact (h.vars x b' hb hbl).keep (fun k o hf => hk.spot k o (foot_lt h (q := .v x) ⟨b', hb, hbl, hf⟩) (fun h => h)) rfl rfl (fun us hr => hr.le le)
  · intro r b' hb hl'
    by_cases hx : r < s.rows.length
    · have hb' : s.rows[r]? = some b' := by rwa [List.getElem?_append_left hx] at hb
      exact (h.rows r b' hb' hl').keep (fun k o hf => hk.spot k o (foot_lt h (q := .r r) ⟨b', hb', hl', hf⟩) (fun h => h)) (le.r r (by rw [h.nr]; exact hx)) le.toLe0
    · obtain ⟨rfl, rfl⟩ := hxe hb hx
      exact ⟨hn, us, by rw [rnew]; exact ho, hc.le le.toLe0⟩
  · intro q k o hq
    cases q with
    | v x => exact .inl hq
    | o x => exact .inl hq
    | r r =>
      obtain ⟨b', hb, hl', hf⟩ := hq
      by_cases hx : r < s.rows.length
      · have hb' : s.rows[r]? = some b' := by rwa [List.getElem?_append_left hx] at hb
        exact .inl ⟨b', hb', hl', by rw [← le.r r (by rw [h.nr]; exact hx)]; exact hf⟩
      · obtain ⟨rfl, rfl⟩ := hxe hb hx
        rw [rnew] at hf
        exact .inr (hnew k o hf)
  · intro q q' k o hk' h1 h2
    have key : ∀ q, foot (c.newRow v w') { s with rows := s.rows ++ [b] } q k o → q = .r c.nr := by
      intro q hq
      cases q with
      | v x => exact absurd (foot_lt h (q := .v x) hq) (by omega)
      | o x => exact absurd (foot_lt h (q := .o x) hq) (by omega)
      | r r =>
        obtain ⟨b', hb, hl', hf⟩ := hq
        by_cases hx : r < s.rows.length
        · have hb' : s.rows[r]? = some b' := by rwa [List.getElem?_append_left hx] at hb
          have : foot c s (.r r) k o := ⟨b', hb', hl', by rw [← le.r r (by rw [h.nr]; exact hx)]; exact hf⟩
          exact absurd (foot_lt h this) (by omega)
        · rw [(hxe hb hx).1]
    rw [key q h1, key q' h2]

def C.world (c : C) (w : World) : C := { c with w := w }
/-- A root is written to, and stays where it is. -/
theorem Holds.write (h : Holds w0 fp c s a) {w' : World} {s' : S} (q0 : Rt) (hk : Keeps c.w w' (foot c s q0)) (hnv : s'.vars.length = s.vars.length) (hnr : s'.rows.length = s.rows.length) (htm : s'.tmps = s.tmps)
    (hv : ∀ x b', s'.vars[x]? = some b' → ∃ b, s.vars[x]? = some b ∧ b'.live = b.live ∧ b'.ct.size = b.ct.size ∧ (b' = b ∧ q0 ≠ .v x ∨ VarOK (c.world w') x b')) (hrr : ∀ (r : Nat) (b : Row), s.rows[r]? = some b → ∃ b' : Row, s'.rows[r]? = some b')
    (hr : ∀ r b', s'.rows[r]? = some b' → ∃ b, s.rows[r]? = some b ∧ b'.live = b.live ∧ b'.fix = b.fix ∧ b'.t.size = b.t.size ∧ (b' = b ∧ q0 ≠ .r r ∨ RowOK (c.world w') r b')) (hlk : fp.lk.has q0 = false) (hlk' : s'.lk = s.lk) (hob : s'.objs = s.objs) (hno : ∀ x, q0 ≠ .o x) :
    C.Le c (c.world w') ∧ Holds w0 fp (c.world w') s' a := by
  have hD : ∀ k o, foot c s q0 k o → k < c.w.heap.size → (w0.heap.size ≤ k ∨ fp.kp k o) ∧ ¬ c.F k o := fun k o hf _ => ⟨h.free q0 k o hf hlk, (h.mine q0 k o hf).2⟩
  have le : c.Le (c.world w') := { h.le0 (c' := c.world w') hk hD rfl with g := fun _ _ => rfl, nv := Nat.le_refl _, r := fun _ _ => rfl, nr := Nat.le_refl _, ob := fun _ _ => rfl, nb := Nat.le_refl _ }
  have hff : ∀ q k o, foot (c.world w') s' q k o → foot c s q k o := by
    intro q k o hq
    cases q with
    | v x =>
      obtain ⟨b', hb', hbl, hf⟩ := hq
      obtain ⟨b, hb, hle, hsz, _⟩ := hv x b' hb'
      exact ⟨b, hb, by rw [← hle]; exact hbl, by rw [← hsz]; exact hf⟩
    | r r =>
      obtain ⟨b', hb', hl, hf⟩ := hq
      obtain ⟨b, hb, e1, e2, e3, _⟩ := hr r b' hb'
      exact ⟨b, hb, by rw [← e1]; exact hl, by rw [← e2, ← e3]; exact hf⟩
    | o x => obtain ⟨b, hb, hl, hf⟩ := hq; exact ⟨b, by rw [← hob]; exact hb, hl, hf⟩
  refine ⟨le, h.turn hk hD rfl (by rw [htm]; exact RVs.le le _ _ h.tmps) h.defers (by rw [hnv]; exact h.nv) (by rw [hnr]; exact h.nr) ?_ ?_ (fun q k o hq => .inl (hff q k o hq)) (fun q q' k o hlt h1 _ => absurd (foot_lt h (hff q k o h1)) (by omega)) (fun x hx => ⟨hx, rfl⟩) (fun r b hb hl hf => by
    obtain ⟨b', hb'⟩ := hrr r b hb
    obtain ⟨b2, hb2, e1, e2, _⟩ := hr r b' hb'
    rw [hb] at hb2
    obtain rfl := Option.some.inj hb2
    exact ⟨rfl, b', hb', e1.trans hl, e2.trans hf⟩) hlk' hob rfl rfl rfl (fun x k o hd hx => hno x (h.disj _ _ k o hd hx))⟩
  · intro x b' hb' hbl
    obtain ⟨b, hb, _, _, h1 | h1⟩ := hv x b' hb'
    · obtain ⟨rfl, hne⟩ := h1
      exact (h.vars x b' hb hbl).keep (fun k o hf => hk.spot k o (foot_lt h (q := .v x) ⟨b', hb, hbl, hf⟩) (fun hd => hne (h.disj _ _ k o hd ⟨b', hb, hbl, hf⟩))) rfl rfl (fun us hr => hr.le le)
    · exact h1
  · intro r b' hb' hl'
    obtain ⟨b, hb, _, _, _, h1 | h1⟩ := hr r b' hb'
    · obtain ⟨rfl, hne⟩ := h1
      exact (h.rows r b' hb hl').keep (fun k o hf => hk.spot k o (foot_lt h (q := .r r) ⟨b', hb, hl', hf⟩) (fun hd => hne (h.disj _ _ k o hd ⟨b', hb, hl', hf⟩))) rfl le.toLe0
    · exact h1
theorem Keeps.mono {w w' : World} {D D' : Foot} (h : Keeps w w' D) (hd : ∀ k o, D k o → D' k o) : Keeps w w' D' := ⟨h.os, h.tape, h.output, h.size, fun k o hk hn => h.spot k o hk (fun q => hn (hd k o q)), h.shape, h.drawn⟩
theorem set_get {α : Type} {l : List α} {i j : Nat} {x y : α} (h : (l.set i x)[j]? = some y) : (i = j ∧ y = x) ∨ (i ≠ j ∧ l[j]? = some y) := by
  by_cases e : i = j
  · subst e
    have hlt : i < l.length := by have := (List.getElem?_eq_some_iff.1 h).1; simpa using this
    rw [List.getElem?_set_self hlt] at h
    exact .inl ⟨rfl, (Option.some.inj h).symm⟩
  · rw [List.getElem?_set_ne e] at h
    exact .inr ⟨e, h⟩
theorem set_some {α : Type} {l : List α} {i j : Nat} {x y : α} (h : l[j]? = some y) : ∃ z, (l.set i x)[j]? = some z := by
  by_cases e : i = j
  · subst e; exact ⟨x, List.getElem?_set_self (List.getElem?_eq_some_iff.1 h).1⟩
  · exact ⟨y, by rw [List.getElem?_set_ne e]; exact h⟩
theorem Holds.setVar (h : Holds w0 fp c s a) {x : Nat} (hlk : fp.lk.has (.v x) = false) {b : Var} (hb : s.vars[x]? = some b) (hlv : b.live = true) {us us' : List Value} (hc : Cells c.w (c.g x).1 (c.g x).2 us) (hus : us.length = b.ct.size) {ct' : Ctn} (hl : us'.length = us.length) (hr : ∀ w', C.Le c (c.world w') → RCt (c.world w') ct' us') (hsz : ct'.size = b.ct.size) :
    ∃ cur el, c.w.heap[(c.g x).1]? = some (.cells cur el (0, 0)) ∧ (c.g x).2 + us.length ≤ cur.size ∧ (cur.toList.drop (c.g x).2).take us.length = us ∧
      Holds w0 fp (c.world (c.w.setRow (c.g x).1 (cur.toList.take (c.g x).2 ++ us' ++ cur.toList.drop ((c.g x).2 + us.length)).toArray)) { s with vars := s.vars.set x ⟨true, ct'⟩ } a ∧ Keeps c.w (c.w.setRow (c.g x).1 (cur.toList.take (c.g x).2 ++ us' ++ cur.toList.drop ((c.g x).2 + us.length)).toArray) (foot c s (.v x)) := by
  obtain ⟨cur, el, h1, h2, h3, h4, h5⟩ := hc.set hl
  refine ⟨cur, el, h1, h2, h3, ?_⟩
  have hk : Keeps c.w _ (foot c s (.v x)) := h5.mono (fun k p hd => ⟨b, hb, hlv, hd.1, hd.2.1, by rw [← hus]; exact hd.2.2⟩)
  have le : C.Le c (c.world (c.w.setRow (c.g x).1 (cur.toList.take (c.g x).2 ++ us' ++ cur.toList.drop ((c.g x).2 + us.length)).toArray)) :=
    { h.le0 (c' := c.world _) hk (fun k o hf _ => ⟨h.free _ k o hf hlk, (h.mine _ k o hf).2⟩) rfl with g := fun _ _ => rfl, nv := Nat.le_refl _, r := fun _ _ => rfl, nr := Nat.le_refl _, ob := fun _ _ => rfl, nb := Nat.le_refl _ }
  refine ⟨?_, hk⟩
  refine (h.write (s' := { s with vars := s.vars.set x ⟨true, ct'⟩ }) (.v x) hk (by simp) rfl rfl (fun y b' hb' => ?_) (fun r b hb => ⟨b, hb⟩) (fun r b' hb' => ⟨b', hb', rfl, rfl, rfl, .inl ⟨rfl, fun e => by cases e⟩⟩) hlk rfl rfl (fun _ e => by cases e)).2
  rcases set_get hb' with ⟨rfl, rfl⟩ | ⟨hne, hb'⟩
  · refine ⟨b, hb, hlv.symm, hsz, .inr ⟨by rw [hsz, ← hus]; exact Nat.lt_of_lt_of_eq (h.vars x b hb hlv).pos hus.symm, us', h4, hr _ le⟩⟩
  · exact ⟨b', hb', rfl, rfl, .inl ⟨rfl, fun e => hne (by injection e)⟩⟩
/-- A row is written to. -/
theorem Holds.setRow (h : Holds w0 fp c s a) {r : Nat} (hlk : fp.lk.has (.r r) = false) {b : Row} (hb : s.rows[r]? = some b) (hlive : b.live = true) {g o n cap : Nat} (hrr : c.r r = .slice (some ⟨g, o, none⟩) n cap) (hn0 : 0 < b.l.length) {us us' : List Value} (ho : RowAt c.w b.fix b.e b.t.size (c.r r) b.l.length us) {l' : List b.t.T} (hl : us'.length = us.length) (hl' : l'.length = b.l.length) (hr : RpL (Rp c b.t) l' us') :
    ∃ cur el, c.w.heap[g]? = some (.cells cur el (0, 0)) ∧ o + us.length ≤ cur.size ∧ (cur.toList.drop o).take us.length = us ∧
      Holds w0 fp (c.world (c.w.setRow g (cur.toList.take o ++ us' ++ cur.toList.drop (o + us.length)).toArray)) { s with rows := s.rows.set r { b with l := l' } } a ∧ Keeps c.w (c.w.setRow g (cur.toList.take o ++ us' ++ cur.toList.drop (o + us.length)).toArray) (foot c s (.r r)) := by
  rcases ho.at_ with ⟨e, _⟩ | ⟨_, e, _⟩ | ⟨g', o', cap', e, hnc, hcm, hcells, hfix⟩
  · rw [e] at hrr; cases hrr
  · omega
  rw [hrr] at e
  simp only [Value.slice.injEq, Option.some.injEq, Addr.mk.injEq, and_true] at e
  obtain ⟨⟨rfl, rfl⟩, rfl, rfl⟩ := e
  obtain ⟨cur, el, h1, h2, h3, h4, h5⟩ := hcells.set hl
  refine ⟨cur, el, h1, h2, h3, ?_⟩
  have hk : Keeps c.w _ (foot c s (.r r)) := h5.mono (fun k p hd => ⟨b, hb, hlive, by
    rw [hrr]
    refine ⟨hd.1, .inr ⟨hd.2.1, ?_⟩⟩
    have := hd.2.2
    rw [ho.len] at this
    exact this⟩)
  have le : C.Le c (c.world (c.w.setRow g (cur.toList.take o ++ us' ++ cur.toList.drop (o + us.length)).toArray)) :=
    { h.le0 (c' := c.world _) hk (fun k o hf _ => ⟨h.free _ k o hf hlk, (h.mine _ k o hf).2⟩) rfl with g := fun _ _ => rfl, nv := Nat.le_refl _, r := fun _ _ => rfl, nr := Nat.le_refl _, ob := fun _ _ => rfl, nb := Nat.le_refl _ }
  refine ⟨?_, hk⟩
  refine (h.write (s' := { s with rows := s.rows.set r { b with l := l' } }) (.r r) hk rfl (by simp) rfl (fun x b' hb' => ⟨b', hb', rfl, rfl, .inl ⟨rfl, fun e => by cases e⟩⟩) (fun r' b1 hb1 => set_some hb1) (fun r' b' hb' => ?_) hlk rfl rfl (fun _ e => by cases e)).2
  rcases set_get hb' with ⟨rfl, rfl⟩ | ⟨hne, hb'⟩
  · refine ⟨b, hb, rfl, rfl, rfl, .inr ⟨?_, us', ⟨?_, .inr (.inr ⟨g, o, cap, ?_, ?_, hcm, h4, fun hf => ?_⟩)⟩, hr.le le.toLe0⟩⟩
    · show b.n.val = l'.length
      rw [hl']; exact (h.rows r b hb hlive).len
    · rw [hl, ho.len]; simp only; rw [hl']
    · show c.r r = _; rw [hrr]; simp only; rw [hl']
    · simp only; rw [hl']; exact hnc
    · obtain ⟨rfl, cur2, hg2, hs2⟩ := hfix hf
      rw [h1] at hg2
      simp only [Option.some.injEq, Obj.cells.injEq] at hg2
      obtain ⟨rfl, rfl, _⟩ := hg2
      refine ⟨rfl, _, setRow_heap c.w g cur _ _ _ h1, ?_⟩
      simp; omega
  · exact ⟨b', hb', rfl, rfl, rfl, .inl ⟨rfl, fun e => hne (by injection e)⟩⟩

mutual
theorem RV.kill {c c' : C} (h0 : c.Le0 c') (r : Nat) (hg : ∀ x, x < c.nv → c'.g x = c.g x) (hnv : c.nv ≤ c'.nv) (hr : ∀ x, x < c.nr → x ≠ r → c'.r x = c.r x) (hn : c.nr ≤ c'.nr) (hob : c'.ob = c.ob) (hnb : c'.nb = c.nb) : ∀ (v : V) (u : Value), RV c v u → RV c' (Fx.kill r v) u
  | .i k n, u, h | .b x, u, h | .v v, u, h | .nx b p r, u, h | .pt e, u, h => by simpa only [Fx.kill, RV] using h
  | .x t e, u, h => by simp only [Fx.kill, RV] at h ⊢; obtain ⟨us, e, hq⟩ := h; exact ⟨us, e, hq.le h0⟩
  | .lp x o, u, h => by simp only [Fx.kill, RV] at h ⊢; exact ⟨Nat.lt_of_lt_of_le h.1 hnv, by rw [hg x h.1]; exact h.2⟩
  | .ro t n l, u, h => by simp only [Fx.kill, RV] at h ⊢; exact ⟨h.1, h.2.le h0⟩
  | .rp t l i j, u, h => by
    simp only [Fx.kill, RV] at h ⊢
    obtain ⟨p0, p1, g, o, vs, e, hs, hl⟩ := h
    exact ⟨p0, p1, g, o, vs, e, hs.le h0, hl.le h0⟩
  | .own r', u, h => by
    simp only [Fx.kill]
    by_cases e : r' = r
    · simp [e, RV]
    · simp only [beq_iff_eq, e, if_false, RV] at h ⊢
      rw [hr r' h.1 e]
      exact ⟨Nat.lt_of_lt_of_le h.1 hn, h.2⟩
  | .vw r' sz lo n, u, h => by
    simp only [Fx.kill]
    by_cases e : r' = r
    · simp [e, RV]
    · simp only [beq_iff_eq, e, if_false, RV] at h ⊢
      rw [hr r' h.1 e]
      exact ⟨Nat.lt_of_lt_of_le h.1 hn, h.2⟩
  | .op r' sz i j, u, h | .bk r' sz i j, u, h => by
    simp only [Fx.kill]
    by_cases e : r' = r
    · simp [e, RV]
    · simp only [beq_iff_eq, e, if_false, RV] at h ⊢
      rw [hr r' h.1 e]
      exact ⟨Nat.lt_of_lt_of_le h.1 hn, h.2⟩
  | .fn _ l, u, h | .agg l, u, h | .tup l, u, h => by
    simp only [Fx.kill, RV] at h ⊢
    obtain ⟨us, e, hq⟩ := h
    exact ⟨us, e, RVs.kill h0 r hg hnv hr hn hob hnb l _ hq⟩
  | .obj x, u, h => by simp only [Fx.kill, RV] at h ⊢; rw [hob, hnb]; exact h
  | .junk, u, h => by simp [Fx.kill, RV]
theorem RVs.kill {c c' : C} (h0 : c.Le0 c') (r : Nat) (hg : ∀ x, x < c.nv → c'.g x = c.g x) (hnv : c.nv ≤ c'.nv) (hr : ∀ x, x < c.nr → x ≠ r → c'.r x = c.r x) (hn : c.nr ≤ c'.nr) (hob : c'.ob = c.ob) (hnb : c'.nb = c.nb) : ∀ (vs : List V) (us : List Value), RVs c vs us → RVs c' (Fx.kills r vs) us
  | [], us, h => by simpa [Fx.kills, RVs] using h
  | v :: vs, us, h => by
    simp only [Fx.kills, RVs] at h ⊢
    obtain ⟨u, us', e, h1, h2⟩ := h
    exact ⟨u, us', e, RV.kill h0 r hg hnv hr hn hob hnb v u h1, RVs.kill h0 r hg hnv hr hn hob hnb vs us' h2⟩
end
theorem kills_length (r : Nat) : ∀ l : List V, (kills r l).length = l.length
  | [] => rfl
  | _ :: l => by simp [kills, kills_length r l]
theorem Ctn.kill_size (r : Nat) (ct : Ctn) : (ct.kill r).size = ct.size := by cases ct <;> simp [Ctn.kill, Ctn.size, kills_length]
/-- A row turns, and may lie elsewhere then. -/
def C.regrow (c : C) (r : Nat) (v : Value) (w' : World) : C := { c with w := w', r := fun x => if x = r then v else c.r x }
theorem Holds.regrow (h : Holds w0 fp c s a) {r : Nat} (hlk : fp.lk.has (.r r) = false) {b b' : Row} (hb : s.rows[r]? = some b) (hlive : b.live = true) (hnf : b.fix = false) (hb' : b'.live = true) {v : Value} {w' : World} {us : List Value} (hk : Keeps c.w w' (foot c s (.r r)))
    (ho : RowAt w' b'.fix b'.e b'.t.size v b'.l.length us) (hn : b'.n.val = b'.l.length) (hc : RpL (Rp c b'.t) b'.l us) (hfoot : ∀ k o, rowF v b'.fix b'.t.size k o → foot c s (.r r) k o ∨ c.w.heap.size ≤ k) :
    Holds w0 fp (c.regrow r v w') { s with tmps := kills r s.tmps, vars := s.vars.map fun v => ⟨v.live, v.ct.kill r⟩, rows := s.rows.set r b' } a := by
  have hD : ∀ k o, foot c s (.r r) k o → k < c.w.heap.size → (w0.heap.size ≤ k ∨ fp.kp k o) ∧ ¬ c.F k o := fun k o hf _ => ⟨h.free _ k o hf hlk, (h.mine _ k o hf).2⟩
  have le0 : c.Le0 (c.regrow r v w') := h.le0 (c' := c.regrow r v w') hk hD rfl
  have rold : ∀ x, x < c.nr → x ≠ r → (c.regrow r v w').r x = c.r x := fun x _ hx => by simp [C.regrow, hx]
  have rnew : (c.regrow r v w').r r = v := by simp [C.regrow]
  have kl := RVs.kill le0 r (fun _ _ => rfl) (Nat.le_refl _) rold (Nat.le_refl _) rfl rfl
  have hff : ∀ q k o, foot (c.regrow r v w') { s with tmps := kills r s.tmps, vars := s.vars.map fun v => ⟨v.live, v.ct.kill r⟩, rows := s.rows.set r b' } q k o → foot c s q k o ∨ (q = .r r ∧ c.w.heap.size ≤ k) := by
    intro q k o hq
    cases q with
    | v x =>
      obtain ⟨b1, hb1, hbl, hf⟩ := hq
      simp only [List.getElem?_map, Option.map_eq_some_iff] at hb1
      obtain ⟨b0, hb0, rfl⟩ := hb1
      exact .inl ⟨b0, hb0, hbl, by simp only [Ctn.kill_size] at hf; exact hf⟩
    | o x => exact .inl hq
    | r r' =>
      obtain ⟨b1, hb1, hl1, hf⟩ := hq
      rcases set_get hb1 with ⟨rfl, rfl⟩ | ⟨hne, hb1⟩
      · rw [rnew] at hf
        rcases hfoot k o hf with q | q
        · exact .inl q
        · exact .inr ⟨rfl, q⟩
      · rw [rold r' (h.row_lt hb1) (Ne.symm hne)] at hf
        exact .inl ⟨b1, hb1, hl1, hf⟩
  refine h.turn hk hD rfl (kl _ _ h.tmps) h.defers (by simp [C.regrow, h.nv]) (by simp [C.regrow, h.nr]) ?_ ?_ (fun q k o hq => (hff q k o hq).imp id And.right) ?_ (fun x hx => ⟨hx, rfl⟩) (fun r' b1 hb1 hl1 hf1 => by
    have hne : r ≠ r' := fun e => by subst e; rw [hb] at hb1; obtain rfl := Option.some.inj hb1; rw [hnf] at hf1; cases hf1
    exact ⟨rold r' (h.row_lt hb1) (Ne.symm hne), b1, by rw [List.getElem?_set_ne hne]; exact hb1, hl1, hf1⟩) rfl rfl rfl rfl rfl (fun x k o hd hx => by have := h.disj _ _ k o hd hx; cases this)
  · intro x bx hx hbl
    simp only [List.getElem?_map, Option.map_eq_some_iff] at hx
    obtain ⟨b0, hb0, rfl⟩ := hx
    refine (h.vars x b0 hb0 hbl).keep (fun k o hf => hk.spot k o (foot_lt h (q := .v x) ⟨b0, hb0, hbl, hf⟩) (fun hd => by have := h.disj (.r r) (.v x) k o hd ⟨b0, hb0, hbl, hf⟩; cases this)) rfl (Ctn.kill_size _ _) (fun us hr => ?_)
    cases hct : b0.ct with
    | pk t e => rw [hct] at hr; exact Rp.le le0 hr
    | ls l => rw [hct] at hr; exact kl _ _ hr
  · intro r' b1 hb1 hl1
    rcases set_get hb1 with ⟨rfl, rfl⟩ | ⟨hne, hb1⟩
    · exact ⟨hn, us, by rw [rnew]; exact ho, hc.le le0⟩
    · refine (h.rows r' b1 hb1 hl1).keep (fun k o hf => hk.spot k o (foot_lt h (q := .r r') ⟨b1, hb1, hl1, hf⟩) (fun hd => hne (by have := h.disj (.r r) (.r r') k o hd ⟨b1, hb1, hl1, hf⟩; injection this))) (rold r' (h.row_lt hb1) (Ne.symm hne)) le0
  · intro q q' k o hlt h1 h2
    rcases hff q k o h1 with p | p
    · exact absurd (foot_lt h p) (by omega)
    · rcases hff q' k o h2 with p' | p'
      · exact absurd (foot_lt h p') (by omega)
      · rw [p.1, p'.1]
end
end Go.Fx
