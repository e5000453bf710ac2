/- What comes in from outside, opened. -/
import Derived.Test.YtplefbcgpbdkfaaDoorFr
set_option linter.all false
namespace Go.Fx
open Go Go.RowKit

def tile (P : Program) : Nat → List Field → Option Nat
  | off, [] => some off
  | off, f :: fs => if f.offset = off then tile P (off + P.cellsOf f.type) fs else none
def chainO : List (Option Tp) → Option Tp
  | [some a] => some a
  | some a :: r => (chainO r).map (.p a)
  | _ => none
/-- The kind of data of a type. -/
def tpT (P : Program) : Nat → TypeId → Option Tp
  | 0, _ => none
  | d + 1, t => match P.underlying t with
    | some (.int k) => some (.i k)
    | some .bool => some .bo
    | some .string => some .tx
    | some (.slice e) => match tpT P d e with
      | some q => if q.size == P.cellsOf e then some (.sl q) else none
      | none => none
    | some (.struct fs) => if tile P 0 fs.toList == some (P.cellsOf t) && decide (2 ≤ fs.size) then chainO (fs.toList.map fun f => tpT P d f.type) else none
    | _ => none
def wfK (k : IntKind) (n : Int) : Prop := (Lit.int k n).wf = true
/-- Numbers are of their kinds. -/
def Tp.fits : (t : Tp) → t.T → Prop
  | .i k, n => wfK k n
  | .bo, _ => True
  | .tx, _ => True
  | .pt, _ => True
  | .p a b, e => a.fits e.1 ∧ b.fits e.2
  | .sl t, l => l.length ≤ maxLen ∧ ∀ x ∈ l, t.fits x
  | .opt _, _ => True

section
variable {H : Type} {enc : TypeId × Value → H} {P : Program} {w : World} {base : Nat} {spare : Nat → Bool} {held : Bool}
theorem openD_fields {d fuel : Nat} (ih : ∀ (t : TypeId) (cs : List Value) (x : DataW H × List MemPlace) (τ : Tp), tpT P d t = some τ → DataW.trod enc P w base spare held fuel t cs = some x → ∃ e : τ.T, τ.fits e ∧ Rp (inC w) τ e cs) (cs : List Value) :
    ∀ (fl : List Field) (off n : Nat) (τ : Tp), tile P off fl = some n → chainO (fl.map fun f => tpT P d f.type) = some τ → (∀ f ∈ fl, ∃ y, DataW.trod enc P w base spare held fuel f.type ((cs.drop f.offset).take (P.cellsOf f.type)) = some y) → cs.length = n →
      ∃ e : τ.T, τ.fits e ∧ Rp (inC w) τ e (cs.drop off)
  | [], off, n, τ, ht, hs, _, hl => by simp [chainO] at hs
  | f :: fl, off, n, τ, ht, hs, hy, hl => by
    simp only [tile] at ht
    split at ht
    case isFalse => cases ht
    rename_i hoff
    subst hoff
    obtain ⟨y, hy0⟩ := hy f (by simp)
    cases ha : tpT P d f.type with
    | none => simp [chainO, ha] at hs
    | some a =>
      obtain ⟨e1, h1, h2⟩ := ih _ _ _ _ ha hy0
      cases fl with
      | nil =>
        simp only [List.map_cons, List.map_nil, chainO, ha, Option.some.injEq] at hs
        subst hs
        simp only [tile, Option.some.injEq] at ht
        refine ⟨e1, h1, ?_⟩
        rwa [List.take_of_length_le (by simp; omega)] at h2
      | cons g gl =>
        have hs' : (chainO ((g :: gl).map fun f => tpT P d f.type)).map (Tp.p a) = some τ := by
          rw [List.map_cons, ha] at hs
          simpa only [List.map_cons, chainO] using hs
        obtain ⟨b, hb, rfl⟩ := Option.map_eq_some_iff.1 hs'
        obtain ⟨e2, g1, g2⟩ := openD_fields ih cs (g :: gl) _ n b ht hb (fun f hf => hy f (by simp only [List.mem_cons] at hf ⊢; exact .inr hf)) hl
        refine ⟨(e1, e2), ⟨h1, g1⟩, ?_⟩
        simp only [Rp]
        refine ⟨_, _, ?_, h2, g2⟩
        rw [← List.drop_drop, List.take_append_drop]
/-- A part of a row of cells. -/
theorem cells_seg {a : Addr} {n : Nat} : ∀ {len : Nat} {L : List (List Value)}, L.length = len → (∀ (i : Nat) (c : List Value), L[i]? = some c → w.cells? base (a.add (i * n)) n = some c) →
    L.flatten.length = len * n ∧ ∀ (j : Nat) (u : Value), L.flatten[j]? = some u → w.cell? (a.add j) = some u := by
  intro len L hlen h
  have hl : ∀ c ∈ L, c.length = n := fun c hc => by
    obtain ⟨i, hi⟩ := List.mem_iff_getElem?.1 hc
    exact (World.cells?_some (h i c hi)).2.1
  have key : ∀ (L : List (List Value)) (k : Nat), (∀ c ∈ L, c.length = n) → (∀ (i : Nat) (c : List Value), L[i]? = some c → w.cells? base (a.add ((k + i) * n)) n = some c) → L.flatten.length = L.length * n ∧ ∀ (j : Nat) (u : Value), L.flatten[j]? = some u → w.cell? (a.add (k * n + j)) = some u := by
    intro L
    induction L with
    | nil => intro k _ _; exact ⟨by simp, fun j u hu => by simp at hu⟩
    | cons c L ih =>
      intro k hl h
      have hc := hl c (by simp)
      obtain ⟨i1, i2⟩ := ih (k + 1) (fun c hc => hl c (by simp [hc])) (fun i c hc => by
        have := h (i + 1) c (by simpa using hc)
        rwa [show k + (i + 1) = k + 1 + i from by omega] at this)
      refine ⟨by simp only [List.flatten_cons, List.length_append, i1, hc, List.length_cons, Nat.add_mul]; omega, fun j u hu => ?_⟩
      rw [List.flatten_cons, List.getElem?_append] at hu
      split at hu
      · rename_i hj
        have h0 := (World.cells?_some (h 0 c rfl)).2.2 j (by omega)
        rw [add_add', Nat.add_zero] at h0
        rw [h0, hu]
      · rename_i hj
        have := i2 (j - c.length) u hu
        rwa [show (k + 1) * n + (j - c.length) = k * n + j from by rw [Nat.add_mul]; omega] at this
  obtain ⟨q1, q2⟩ := key L 0 hl (fun i c hc => by rw [Nat.zero_add]; exact h i c hc)
  exact ⟨by rw [q1, hlen], fun j u hu => by simpa using q2 j u hu⟩
theorem openD : ∀ (d fuel : Nat) (t : TypeId) (cs : List Value) (x : DataW H × List MemPlace) (τ : Tp), tpT P d t = some τ → DataW.trod enc P w base spare held fuel t cs = some x → ∃ e : τ.T, τ.fits e ∧ Rp (inC w) τ e cs
  | 0, _, _, _, _, _, h, _ => by simp [tpT] at h
  | d + 1, 0, _, _, _, _, _, h => by simp [DataW.trod] at h
  | d + 1, fuel + 1, t, cs, x, τ, ho, h => by
    simp only [tpT] at ho
    unfold DataW.trod at h
    cases hu : P.underlying t with
    | none => rw [hu] at ho; cases ho
    | some ds =>
      rw [hu] at ho h
      cases ds with
      | int k =>
        obtain rfl := Option.some.inj ho
        match cs, h with
        | [.int k' n], h =>
          simp only at h
          split at h
          · rename_i hk
            obtain ⟨rfl, hw⟩ := hk
            exact ⟨n, hw, rfl⟩
          · cases h
      | bool =>
        obtain rfl := Option.some.inj ho
        match cs, h with
        | [.bool b], h => exact ⟨b, trivial, rfl⟩
      | string =>
        obtain rfl := Option.some.inj ho
        match cs, h with
        | [.string s], h => exact ⟨s, trivial, rfl⟩
      | struct fl =>
        simp only at ho
        split at ho
        case isFalse => cases ho
        rename_i htile
        simp only [Bool.and_eq_true, beq_iff_eq] at htile
        simp only at h
        split at h
        case isFalse => cases h
        rename_i hl
        simp only [Option.map_eq_some_iff] at h
        obtain ⟨xs, hxs, _⟩ := h
        have hy : ∀ f ∈ fl.toList, ∃ y, DataW.trod enc P w base spare held fuel f.type ((cs.drop f.offset).take (P.cellsOf f.type)) = some y := fun f hf => by
          obtain ⟨i, hi⟩ := List.mem_iff_getElem?.1 hf
          have := mapM_some_get hxs i f hi
          have hlen := mapM_some_length hxs
          have hlt := (List.getElem?_eq_some_iff.1 hi).1
          exact ⟨xs[i]'(by omega), by rw [this]; exact List.getElem?_eq_getElem (by omega)⟩
        obtain ⟨e, h1, h2⟩ := openD_fields (fun t cs x τ => openD d fuel t cs x τ) cs fl.toList 0 _ τ htile.1 ho hy hl
        exact ⟨e, h1, by simpa using h2⟩
      | slice el =>
        simp only at ho
        split at ho
        case h_2 => cases ho
        rename_i q hq
        split at ho
        case isFalse => cases ho
        rename_i hsz
        simp only [beq_iff_eq] at hsz
        obtain rfl := Option.some.inj ho
        match cs, h with
        | [.slice none 0 0], h => exact ⟨[], ⟨by simp, by simp⟩, none, 0, rfl, by simp, by simp, .inl rfl⟩
        | [.slice (some a) len cap], h =>
          simp only at h
          split at h
          case isFalse => cases h
          rename_i hc
          obtain ⟨elems, he, _⟩ := Option.bind_eq_some_iff.1 h
          have hlen := mapM_some_length he
          simp only [List.length_range] at hlen
          have hel : ∀ i, i < len → ∃ ci, w.cells? base (a.add (i * P.cellsOf el)) (P.cellsOf el) = some ci ∧ ∃ e : q.T, q.fits e ∧ Rp (inC w) q e ci := fun i hi => by
            have hg := mapM_some_get he i i (by simp [hi])
            rw [List.getElem?_eq_getElem (by omega)] at hg
            obtain ⟨ci, hci, hy⟩ := Option.bind_eq_some_iff.1 hg
            exact ⟨ci, hci, openD d fuel el ci _ q hq hy⟩
          have hall : ∀ n, n ≤ len → ∃ (l : List q.T) (L : List (List Value)), l.length = n ∧ L.length = n ∧ (∀ x ∈ l, q.fits x) ∧ RpL (Rp (inC w) q) l L.flatten ∧ ∀ (i : Nat) (c : List Value), L[i]? = some c → w.cells? base (a.add (i * P.cellsOf el)) (P.cellsOf el) = some c := fun n => by
            induction n with
            | zero => exact fun _ => ⟨[], [], rfl, rfl, by simp, rfl, fun i c hc => by simp at hc⟩
            | succ n ih =>
              intro hn
              obtain ⟨l, L, a1, a2, a3, a4, a5⟩ := ih (by omega)
              obtain ⟨ci, hci, e, hf, hr⟩ := hel n (by omega)
              refine ⟨l ++ [e], L ++ [ci], by simp [a1], by simp [a2], fun x hx => ?_, ?_, fun i c hc => ?_⟩
              · rcases List.mem_append.1 hx with hx | hx
                · exact a3 x hx
                · simp at hx; subst hx; exact hf
              · rw [List.flatten_append]
                exact a4.append ⟨ci, [], by simp, hr, rfl⟩
              · rw [List.getElem?_append] at hc
                split at hc
                · exact a5 i c hc
                · rename_i hi
                  have : i - L.length = 0 := by
                    have := (List.getElem?_eq_some_iff.1 hc).1
                    simp at this; omega
                  rw [this] at hc
                  simp at hc
                  subst hc
                  rw [show i = n from by omega]; exact hci
          obtain ⟨l, L, a1, a2, a3, a4, a5⟩ := hall len (Nat.le_refl _)
          obtain ⟨b1, b2⟩ := cells_seg (w := w) (base := base) a2 a5
          refine ⟨l, ⟨by have := hc.2.1; have := hc.2.2; omega, a3⟩, some a, cap, by rw [a1], by have := hc.2.1; omega, hc.2.2, ?_⟩
          by_cases h0 : len = 0
          · left; exact List.eq_nil_of_length_eq_zero (by omega)
          right
          have hpos : 0 < L.flatten.length := by
            rw [b1, ← hsz]; exact Nat.mul_pos (by omega) q.size_pos
          have hspot : a.spot = none := by
            have hcell := b2 0 _ (List.getElem?_eq_getElem hpos)
            unfold World.cell? at hcell
            split at hcell
            · split at hcell
              · cases hcell
              · rename_i hs
                simpa [Addr.add] using hs
            · cases hcell
          obtain ⟨g, o, sp⟩ := a
          simp only at hspot
          subst hspot
          have hadd : ∀ j, (⟨g, o, none⟩ : Addr).add j = ⟨g, o + j, none⟩ := fun j => by
            unfold Addr.add
            split
            · rename_i h; subst h; rfl
            · rfl
          refine ⟨g, o, L.flatten, rfl, ⟨fun j hj => ?_, fun j u hu => ?_, fun u hu => a4.one u hu⟩, a4⟩
          · obtain ⟨ci, hci, _⟩ := hel 0 (by omega)
            have := World.cells?_block hci (by rw [← hsz]; exact q.size_pos)
            rw [add_blk] at this
            exact this
          · rw [← hadd]; exact b2 j u hu
      | _ => cases ho
/-- As a value. -/
theorem Rp.toRV {c : C} {t : Tp} {e : t.T} {v : Value} (h : Rp c t e [v]) (hp : t.isP = false) : RV c (toV t e) v := by
  cases t with
  | i k => simp only [Rp, List.cons.injEq, and_true] at h; simp only [toV, RV, I.val]; exact h
  | bo => simp only [Rp, List.cons.injEq, and_true] at h; simp only [toV, RV, B.val]; exact h
  | tx => simp only [Rp, List.cons.injEq, and_true] at h; simp only [toV, RV]; exact h
  | pt => simp only [Rp, List.cons.injEq, and_true] at h; simp only [toV, RV]; exact h
  | p a b => cases hp
  | sl t => simp only [toV, RV, I.val]; exact ⟨trivial, h⟩
  | opt t => simp [toV, RV]
theorem Rp.toRV' {c : C} {t : Tp} {e : t.T} {us : Array Value} (h : Rp c t e us.toList) (hp : t.isP = true) : RV c (toV t e) (.agg us) := by
  cases t with
  | p a b => simp only [toV, RV]; exact ⟨us, rfl, h⟩
  | _ => cases hp
end
end Go.Fx
