/- What comes in from outside, opened: numbers, bools, texts, structs of such, and slices of such. -/
import Derived.Test.YtkhbodngiodklaaDyO
set_option linter.all false
namespace Go.Dx
open Go Go.RowKit

def tile (P : Program) : Nat → List Field → Option Nat
  | off, [] => some off
  | off, f :: fs => if f.offset = off then tile P (off + P.cellsOf f.type) fs else none
def joinO : List (Option (List FSh)) → Option (List FSh)
  | [] => some []
  | x :: xs => match x, joinO xs with
    | some a, some b => some (a ++ b)
    | _, _ => none
/-- The cells of a type of numbers, bools, texts, and structs of such. -/
def fshT (P : Program) : Nat → TypeId → Option (List FSh)
  | 0, _ => none
  | d + 1, t => match P.underlying t with
    | some (.int k) => some [.i k]
    | some .bool => some [.b]
    | some .string => some [.s]
    | some (.struct fs) => if tile P 0 fs.toList == some (P.cellsOf t) then joinO (fs.toList.map fun f => fshT P d f.type) else none
    | _ => none
def fshTs (P : Program) (d : Nat) (fl : List Field) : Option (List FSh) := joinO (fl.map fun f => fshT P d f.type)
def wfK (k : IntKind) (n : Int) : Prop := (Lit.int k n).wf = true
/-- A cell is of its kind. -/
def fitF : FSh → V → Prop
  | .i k, v => ∃ n, v = .i k (.s n) ∧ wfK k n
  | .b, v => ∃ x, v = .b (.s x)
  | .s, v => ∃ x, v = .v (.string x)
def fitFs : List FSh → List V → Prop
  | [], vs => vs = []
  | a :: as, vs => ∃ v r, vs = v :: r ∧ fitF a v ∧ fitFs as r
theorem fitFs.append : ∀ {as bs : List FSh} {vs ws : List V}, fitFs as vs → fitFs bs ws → fitFs (as ++ bs) (vs ++ ws)
  | [], bs, vs, ws, h, h' => by simp only [fitFs] at h; subst h; exact h'
  | a :: as, bs, vs, ws, h, h' => by
    simp only [fitFs] at h
    obtain ⟨v, r, rfl, h1, h2⟩ := h
    exact ⟨v, r ++ ws, rfl, h1, h2.append h'⟩
theorem fitFs.length : ∀ {as : List FSh} {vs : List V}, fitFs as vs → vs.length = as.length
  | [], vs, h => by simp only [fitFs] at h; subst h; rfl
  | a :: as, vs, h => by
    obtain ⟨v, r, rfl, _, h2⟩ := h
    simp [h2.length]
theorem fitFs.get : ∀ {as : List FSh} {vs : List V} (j : Nat) {a : FSh}, fitFs as vs → as[j]? = some a → ∃ v, vs[j]? = some v ∧ fitF a v
  | [], vs, j, a, _, ha => by simp at ha
  | b :: as, vs, 0, a, h, ha => by
    obtain ⟨v, r, rfl, h1, _⟩ := h
    simp at ha; subst ha
    exact ⟨v, rfl, h1⟩
  | b :: as, vs, j + 1, a, h, ha => by
    obtain ⟨v, r, rfl, _, h2⟩ := h
    simpa using fitFs.get j h2 (by simpa using ha)
def toI : V → Int
  | .i _ n => n.val
  | _ => 0
def toB : V → Bool
  | .b x => x.val
  | _ => false
def toS : V → ByteArray
  | .v (.string s) => s
  | _ => ByteArray.empty
/-- The column of one cell, of elements that are known one by one. -/
def FSh.ofG (g : Nat → List V) (j : Nat) : FSh → U
  | .i _ => .ci fun i => toI ((g i).getD j .junk)
  | .b => .cb fun i => toB ((g i).getD j .junk)
  | .s => .cs fun i => toS ((g i).getD j .junk)
def ofGs (g : Nat → List V) : Nat → List FSh → List U
  | _, [] => []
  | j, a :: as => a.ofG g j :: ofGs g (j + 1) as
theorem ofGs_kn (g : Nat → List V) : ∀ (j : Nat) (as : List FSh), (ofGs g j as).map U.kn = CSh.kns (as.map .f)
  | _, [] => rfl
  | j, a :: as => by
    simp only [ofGs, List.map_cons, CSh.kns, CSh.kn, List.singleton_append, List.cons.injEq]
    exact ⟨by cases a <;> rfl, ofGs_kn g (j + 1) as⟩
theorem ofGs_mks (g : Nat → List V) : ∀ (j : Nat) (as : List FSh) (l : List U), ∃ cs, CSh.mks (as.map .f) (ofGs g j as ++ l) = (cs, l) ∧ cs.length = as.length ∧ ∀ (q : Nat) (a : FSh), as[q]? = some a → ∀ i v, (g i)[j + q]? = some v → fitF a v → (cs.getD q .j).at i = v
  | j, [], l => ⟨[], rfl, rfl, fun q a h => by simp at h⟩
  | j, a :: as, l => by
    obtain ⟨cs, h1, h2, h3⟩ := ofGs_mks g (j + 1) as l
    obtain ⟨p, hp, hv⟩ : ∃ p : FCol, a.mk (a.ofG g j :: (ofGs g (j + 1) as ++ l)) = (p, ofGs g (j + 1) as ++ l) ∧ ∀ i v, (g i)[j]? = some v → fitF a v → p.at i = v := by
      cases a with
      | i k => exact ⟨_, rfl, fun i v h hf => by obtain ⟨n, rfl, _⟩ := hf; simp [FCol.at, List.getD, h, toI, I.val]⟩
      | b => exact ⟨_, rfl, fun i v h hf => by obtain ⟨n, rfl⟩ := hf; simp [FCol.at, List.getD, h, toB, B.val]⟩
      | s => exact ⟨_, rfl, fun i v h hf => by obtain ⟨n, rfl⟩ := hf; simp [FCol.at, List.getD, h, toS]⟩
    refine ⟨.f p :: cs, ?_, by simp [h2], fun q b hb i v hiv hf => ?_⟩
    · simp only [List.map_cons, ofGs, List.cons_append, CSh.mks, CSh.mk, hp, h1]
    · cases q with
      | zero => simp at hb; subst hb; simp only [List.getD_cons_zero, Col.at]; exact hv i v (by simpa using hiv) hf
      | succ q =>
        rw [List.getD_cons_succ]
        exact h3 q b (by simpa using hb) i v (by rw [← hiv]; congr 1; omega) hf

section
variable {H : Type} {enc : TypeId × Value → H} {P : Program} {w : World} {base : Nat} {spare : Nat → Bool} {held : Bool}
theorem leafF {c : C} {a : FSh} {v : V} {u : Value} (hf : fitF a v) (hr : RC c v u) : u.oneCell' = true ∧ RCell c v u := by
  cases a with
  | i k => obtain ⟨n, rfl, _⟩ := hf; simp only [RC] at hr; subst hr; exact ⟨rfl, rfl⟩
  | b => obtain ⟨n, rfl⟩ := hf; simp only [RC] at hr; subst hr; exact ⟨rfl, rfl⟩
  | s => obtain ⟨n, rfl⟩ := hf; simp only [RC] at hr; subst hr; exact ⟨rfl, rfl⟩
theorem openF_fields {d fuel : Nat} {c : C} (ih : ∀ (t : TypeId) (cs : List Value) (x : DataW H × List MemPlace) (fs : List FSh), fshT P d t = some fs → DataW.trod enc P w base spare held fuel t cs = some x → ∃ vs, fitFs fs vs ∧ RCs c vs cs) (cs : List Value) :
    ∀ (fl : List Field) (off n : Nat) (fs : List FSh), tile P off fl = some n → fshTs P d fl = some fs → (∀ f ∈ fl, ∃ y, DataW.trod enc P w base spare held fuel f.type ((cs.drop f.offset).take (P.cellsOf f.type)) = some y) → cs.length = n →
      ∃ vs, fitFs fs vs ∧ RCs c vs (cs.drop off)
  | [], off, n, fs, ht, hs, _, hl => by
    simp only [tile, Option.some.injEq] at ht
    have hs' : some [] = some fs := hs
    obtain rfl := Option.some.inj hs'
    exact ⟨[], by simp [fitFs], by rw [List.drop_eq_nil_of_le (by omega)]; simp [RCs]⟩
  | f :: fl, off, n, fs, ht, hs, hy, hl => by
    simp only [tile] at ht
    split at ht
    case isFalse => cases ht
    rename_i hoff
    subst hoff
    simp only [fshTs, List.map_cons, joinO] at hs
    split at hs
    case h_2 => cases hs
    rename_i a b ha hb
    obtain rfl := Option.some.inj hs
    obtain ⟨y, hy0⟩ := hy f (by simp)
    obtain ⟨l, h1, h2⟩ := ih _ _ _ _ ha hy0
    obtain ⟨r, g1, g2⟩ := openF_fields ih cs fl _ n _ ht hb (fun f hf => hy f (by simp [hf])) hl
    refine ⟨l ++ r, h1.append g1, ?_⟩
    have : cs.drop f.offset = (cs.drop f.offset).take (P.cellsOf f.type) ++ cs.drop (f.offset + P.cellsOf f.type) := by
      rw [← List.drop_drop, List.take_append_drop]
    rw [this]
    exact RCs.append h2 g2
theorem openF {c : C} : ∀ (d fuel : Nat) (t : TypeId) (cs : List Value) (x : DataW H × List MemPlace) (fs : List FSh), fshT P d t = some fs → DataW.trod enc P w base spare held fuel t cs = some x → ∃ vs, fitFs fs vs ∧ RCs c vs cs
  | 0, _, _, _, _, _, h, _ => by simp [fshT] at h
  | d + 1, 0, _, _, _, _, _, h => by simp [DataW.trod] at h
  | d + 1, fuel + 1, t, cs, x, fs, ho, h => by
    simp only [fshT] at ho
    unfold DataW.trod at h
    cases hu : P.underlying t with
    | none => rw [hu] at ho; cases ho
    | some ds =>
      rw [hu] at ho h
      cases ds with
      | int k =>
        obtain rfl := Option.some.inj ho
        match cs, h with
        | [.int k' n], h =>
          simp only at h
          split at h
          · rename_i hk
            obtain ⟨rfl, hw⟩ := hk
            exact ⟨[.i k' (.s n)], ⟨_, [], rfl, ⟨n, rfl, hw⟩, rfl⟩, by simp [RCs, RC, I.val]⟩
          · cases h
      | bool =>
        obtain rfl := Option.some.inj ho
        match cs, h with
        | [.bool b], h => exact ⟨[.b (.s b)], ⟨_, [], rfl, ⟨b, rfl⟩, rfl⟩, by simp [RCs, RC, B.val]⟩
      | string =>
        obtain rfl := Option.some.inj ho
        match cs, h with
        | [.string s], h => exact ⟨[.v (.string s)], ⟨_, [], rfl, ⟨s, rfl⟩, rfl⟩, by simp [RCs, RC]⟩
      | struct fl =>
        simp only at ho
        split at ho
        case isFalse => cases ho
        rename_i htile
        simp only [beq_iff_eq] at htile
        simp only at h
        split at h
        case isFalse => cases h
        rename_i hl
        simp only [Option.map_eq_some_iff] at h
        obtain ⟨xs, hxs, _⟩ := h
        have hy : ∀ f ∈ fl.toList, ∃ y, DataW.trod enc P w base spare held fuel f.type ((cs.drop f.offset).take (P.cellsOf f.type)) = some y := fun f hf => by
          obtain ⟨i, hi⟩ := List.mem_iff_getElem?.1 hf
          have := mapM_some_get hxs i f hi
          have hlen := mapM_some_length hxs
          have hlt := (List.getElem?_eq_some_iff.1 hi).1
          exact ⟨xs[i]'(by omega), by rw [this]; exact List.getElem?_eq_getElem (by omega)⟩
        obtain ⟨vs, h1, h2⟩ := openF_fields (fun t cs x fs => openF d fuel t cs x fs) cs fl.toList 0 _ fs htile ho hy hl
        exact ⟨vs, h1, by simpa using h2⟩
      | _ => cases ho
/-- What holds of the columns of a slice that came in. -/
def wfF (n : Int) : FSh → U → Prop
  | .i k, .ci f => ∀ i : Nat, (i : Int) < n → wfK k (f i)
  | _, _ => True
def wfFs (n : Int) : List FSh → List U → Prop
  | a :: as, u :: us => wfF n a u ∧ wfFs n as us
  | _, _ => True
theorem wf_ofGs {g : Nat → List V} {n : Int} {all : List FSh} (hg : ∀ i : Nat, (i : Int) < n → fitFs all (g i)) : ∀ (j : Nat) (as : List FSh), (∀ q a, as[q]? = some a → all[j + q]? = some a) → wfFs n as (ofGs g j as)
  | _, [], _ => trivial
  | j, a :: as, h => by
    refine ⟨?_, wf_ofGs hg (j + 1) as (fun q b hb => by have := h (q + 1) b (by simpa using hb); rwa [show j + (q + 1) = j + 1 + q from by omega] at this)⟩
    cases a with
    | i k =>
      intro i hi
      obtain ⟨v, hv, hf⟩ := (hg i hi).get j (h 0 (.i k) rfl)
      obtain ⟨m, rfl, hm⟩ := hf
      simpa [List.getD, hv, toI, I.val] using hm
    | _ => trivial
theorem open_slice {d fuel : Nat} {t e : TypeId} {fs : List FSh} {v : Value} {x : DataW H × List MemPlace} (hu : P.underlying t = some (.slice e)) (hf : fshT P d e = some fs) (hl : fs.length = P.cellsOf e) (hsz : 0 < P.cellsOf e)
    (h : DataW.trod enc P w base spare held fuel t [v] = some x) : ∃ (n : Int) (us : List U), us.map U.kn = CSh.kns (fs.map .f) ∧ 0 ≤ n ∧ n ≤ maxLen ∧ wfFs n fs us ∧ RC (inC w) (.ro (.s n) fs.length (CSh.mks (fs.map .f) us).1) v := by
  cases fuel with
  | zero => simp [DataW.trod] at h
  | succ fuel =>
    unfold DataW.trod at h
    rw [hu] at h
    match v, h with
    | .slice none 0 0, h =>
      obtain ⟨cs, e1, _, _⟩ := ofGs_mks (fun _ => []) 0 fs []
      refine ⟨0, ofGs (fun _ => []) 0 fs, ofGs_kn _ _ _, by omega, by simp [maxLen], wf_ofGs (all := fs) (fun i hi => by omega) 0 fs (fun q a ha => by simpa using ha), ?_⟩
      simp only [RC, roR, I.val]
      exact ⟨none, 0, rfl, by simp, by simp, by simp, fun i j hi => by simp at hi⟩
    | .slice (some a) len cap, h =>
      simp only at h
      split at h
      case isFalse => cases h
      rename_i hc
      obtain ⟨elems, he, _⟩ := Option.bind_eq_some_iff.1 h
      have hel' : ∀ i, ∃ vs, i < len → ∃ ci, w.cells? base (a.add (i * P.cellsOf e)) (P.cellsOf e) = some ci ∧ fitFs fs vs ∧ RCs (inC w) vs ci := fun i => by
        by_cases hi : i < len
        · have hg := mapM_some_get he i i (by simp [hi])
          have hlen := mapM_some_length he
          simp only [List.length_range] at hlen
          rw [List.getElem?_eq_getElem (by omega)] at hg
          obtain ⟨ci, hci, hy⟩ := Option.bind_eq_some_iff.1 hg
          obtain ⟨vs, h1, h2⟩ := openF (c := inC w) d fuel e ci _ fs hf hy
          exact ⟨vs, fun _ => ⟨ci, hci, h1, h2⟩⟩
        · exact ⟨[], fun h => absurd h hi⟩
      obtain ⟨g, hg⟩ := Classical.axiomOfChoice hel'
      obtain ⟨cs, e1, e2, e3⟩ := ofGs_mks g 0 fs []
      rw [List.append_nil] at e1
      refine ⟨len, ofGs g 0 fs, ofGs_kn _ _ _, by omega, by have := hc.2.1; have := hc.2.2; omega, wf_ofGs (all := fs) (fun i hi => ?_) 0 fs (fun q a ha => by simpa using ha), ?_⟩
      · obtain ⟨_, _, h1, _⟩ := hg i (by omega)
        exact h1
      · rw [e1]
        simp only [RC, roR, I.val]
        refine ⟨some a, cap, by simp, by omega, by simpa using hc.2.1, hc.2.2, fun i j hi hj => ?_⟩
        have hi' : i < len := by simpa using hi
        obtain ⟨ci, hci, h1, h2⟩ := hg i hi'
        have hcs := World.cells?_some hci
        have hjl : j < ci.length := by rw [hcs.2.1, ← hl]; exact hj
        obtain ⟨v, hv, hr⟩ := RCs.get j h2 (List.getElem?_eq_getElem hjl)
        obtain ⟨v', hv', hfit⟩ := h1.get j (List.getElem?_eq_getElem hj)
        rw [hv] at hv'
        obtain rfl := Option.some.inj hv'
        obtain ⟨q1, q2⟩ := leafF hfit hr
        refine ⟨a, rfl, by have := World.cells?_block hci hsz; rwa [add_blk] at this, ci[j], ?_, q1, ?_⟩
        · have := hcs.2.2 j (by rw [← hl]; exact hj)
          rw [add_add'] at this
          rw [hl]
          exact this.trans (List.getElem?_eq_getElem hjl)
        · unfold getC
          rw [e3 j _ (List.getElem?_eq_getElem hj) i v (by simpa using hv) hfit]
          exact q2
end
end Go.Dx
