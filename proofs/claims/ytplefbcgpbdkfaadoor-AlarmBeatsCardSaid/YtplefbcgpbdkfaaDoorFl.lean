/- Shapes and names; patterns: one state against another one. -/
import Derived.Test.YtplefbcgpbdkfaaDoorFk
set_option linter.all false
namespace Go.Fx
open Go Go.RowKit

/-! ### Names -/
def allU : List Tp → (List U → Prop) → Prop
  | [], p => p []
  | t :: ts, p => ∀ x : t.T, allU ts fun l => p (⟨t, x⟩ :: l)
def exU : List Tp → (List U → Prop) → Prop
  | [], p => p []
  | t :: ts, p => ∃ x : t.T, exU ts fun l => p (⟨t, x⟩ :: l)
theorem allU_spec : ∀ {ks : List Tp} {p : List U → Prop}, allU ks p → ∀ l, l.map U.t = ks → p l
  | [], p, h, l, e => by
    have : l = [] := by simpa using e
    subst this; exact h
  | k :: ks, p, h, [], e => by simp at e
  | k :: ks, p, h, u :: l, e => by
    simp only [List.map_cons, List.cons.injEq] at e
    obtain ⟨rfl, e⟩ := e
    exact allU_spec (p := fun l => p (u :: l)) (h u.e) l e
theorem exU_spec : ∀ {ks : List Tp} {p : List U → Prop}, exU ks p → ∃ l, l.map U.t = ks ∧ p l
  | [], p, h => ⟨[], rfl, h⟩
  | k :: ks, p, h => by
    obtain ⟨x, h⟩ := h
    obtain ⟨l, e, h⟩ := exU_spec (p := fun l => p (⟨k, x⟩ :: l)) h
    exact ⟨⟨k, x⟩ :: l, by simp [e], h⟩
/-- Which root of the one is which root of the other; none: nil. -/
structure Sg where
  v : List (Nat × Nat)
  r : List (Nat × Option Nat)
  o : List (Nat × Nat)
def lookN {α : Type} : List (Nat × α) → Nat → Option α
  | [], _ => none
  | (k, r) :: l, j => if k == j then some r else lookN l j
def Sg.sv (σ : Sg) (k : Nat) : Nat := (lookN σ.v k).getD k
def Sg.sr (σ : Sg) (k : Nat) : Option Nat := (lookN σ.r k).getD (some k)
def Sg.so (σ : Sg) (k : Nat) : Nat := (lookN σ.o k).getD k
def Sg.addO (σ : Sg) (k x : Nat) : Sg := if (lookN σ.o k).isSome then σ else { σ with o := (k, x) :: σ.o }
def Sg.addV (σ : Sg) (k x : Nat) : Sg := if (lookN σ.v k).isSome then σ else { σ with v := (k, x) :: σ.v }
def Sg.addR (σ : Sg) (k : Nat) (r : Option Nat) : Sg := if (lookN σ.r k).isSome then σ else { σ with r := (k, r) :: σ.r }
mutual
/-- Found by walking: the pattern first, what is there second. -/
def fdV : V → V → Sg → Sg
  | .lp k _, v, σ => match v with | .lp x _ => σ.addV k x | _ => σ
  | .own k, v, σ => match v with | .own r => σ.addR k (some r) | .v (.slice none 0 0) => σ.addR k none | _ => σ
  | .vw k _ _ _, v, σ => match v with | .vw r _ _ _ => σ.addR k (some r) | _ => σ
  | .op k _ _ _, v, σ => match v with | .op r _ _ _ => σ.addR k (some r) | _ => σ
  | .bk k _ _ _, v, σ => match v with | .bk r _ _ _ => σ.addR k (some r) | .own r => σ.addR k (some r) | _ => σ
  | .obj k, v, σ => match v with | .obj x => σ.addO k x | _ => σ
  | .agg l, v, σ => match v with | .agg l' => fdVs l l' σ | _ => σ
  | .tup l, v, σ => match v with | .tup l' => fdVs l l' σ | _ => σ
  | .fn _ l, v, σ => match v with | .fn _ l' => fdVs l l' σ | _ => σ
  | _, _, σ => σ
def fdVs : List V → List V → Sg → Sg
  | [], _, σ => σ
  | v :: vs, ws, σ => match ws with | w :: ws => fdVs vs ws (fdV v w σ) | [] => σ
end
mutual
def fdS : Sh → V → Sg → Sg
  | .is w, v, σ => fdV w v σ
  | .agg l, v, σ => match v with | .agg l' => fdSs l l' σ | _ => σ
  | .d _, _, σ => σ
  | .bk k _, v, σ => match v with | .bk r _ _ _ => σ.addR k (some r) | _ => σ
def fdSs : List Sh → List V → Sg → Sg
  | [], _, σ => σ
  | a :: as, ws, σ => match ws with | w :: ws => fdSs as ws (fdS a w σ) | [] => σ
end
/-- The roots of the one, by the other's. -/
def C.ren (c : C) (σ : Sg) (nv nr nb : Nat) : C := { c with g := fun k => c.g (σ.sv k), r := fun k => match σ.sr k with | some r => c.r r | none => .slice none 0 0, ob := fun k => c.ob (σ.so k), fo := fun k => c.fo (σ.so k), nv := nv, nr := nr, nb := nb }
theorem C.ren_le0 (c : C) (σ : Sg) (nv nr nb : Nat) : c.Le0 (c.ren σ nv nr nb) := ⟨fun _ _ h => h, fun _ _ _ => rfl⟩
mutual
/-- Values that are no data, and are the same. -/
def isV (σ : Sg) (nv nr nb : Nat) : V → V → Bool
  | .lp x o, w => match w with | .lp k o' => σ.sv k == x && o == o' && decide (k < nv) | .junk => true | _ => false
  | .own r, w => match w with | .own k => σ.sr k == some r && decide (k < nr) | .junk => true | _ => false
  | .obj x, w => match w with | .obj k => σ.so k == x && decide (k < nb) | .junk => true | _ => false
  | .v (.slice none 0 0), w => match w with | .own k => σ.sr k == none && decide (k < nr) | .v (.slice none 0 0) => true | .junk => true | _ => false
  | .v (.pointer none), w => match w with | .v (.pointer none) => true | .junk => true | _ => false
  | .fn f l, w => match w with | .fn g l' => f == g && isVs σ nv nr nb l l' | .junk => true | _ => false
  | _, w => match w with | .junk => true | _ => false
def isVs (σ : Sg) (nv nr nb : Nat) : List V → List V → Bool
  | [], ws => match ws with | [] => true | _ => false
  | v :: vs, ws => match ws with | w :: ws => isV σ nv nr nb v w && isVs σ nv nr nb vs ws | [] => false
end
theorem isV_junk {σ : Sg} {nv nr nb : Nat} {v w : V} {c : C} {u : Value} (h : (match w with | .junk => true | _ => false) = true) : RV c w u := by
  split at h
  · simp [RV]
  · cases h
mutual
theorem isV_sound {c : C} {σ : Sg} {nv nr nb : Nat} : ∀ {v w : V} {u : Value}, isV σ nv nr nb v w = true → RV c v u → RV (c.ren σ nv nr nb) w u
  | .lp x o, w, u, h, hr => by
    simp only [isV] at h
    split at h
    · simp only [Bool.and_eq_true, beq_iff_eq, decide_eq_true_eq] at h
      obtain ⟨⟨rfl, rfl⟩, h⟩ := h
      simp only [RV, C.ren] at hr ⊢
      exact ⟨h, hr.2⟩
    · simp [RV]
    · cases h
  | .own r, w, u, h, hr => by
    simp only [isV] at h
    split at h
    · simp only [Bool.and_eq_true, beq_iff_eq, decide_eq_true_eq] at h
      simp only [RV, C.ren, h.1] at hr ⊢
      exact ⟨h.2, hr.2⟩
    · simp [RV]
    · cases h
  | .obj r, w, u, h, hr => by
    simp only [isV] at h
    split at h
    · simp only [Bool.and_eq_true, beq_iff_eq, decide_eq_true_eq] at h
      obtain ⟨rfl, h⟩ := h
      simp only [RV, C.ren] at hr ⊢
      exact ⟨h, hr.2⟩
    · simp [RV]
    · cases h
  | .fn f l, w, u, h, hr => by
    simp only [isV] at h
    split at h
    · simp only [Bool.and_eq_true, beq_iff_eq] at h
      obtain ⟨rfl, h⟩ := h
      simp only [RV] at hr ⊢
      obtain ⟨us, e, hl⟩ := hr
      exact ⟨us, e, isVs_sound h hl⟩
    · simp [RV]
    · cases h
  | .v x, w, u, h, hr => by
    unfold isV at h
    split at h
    · rename_i e; cases e
    · rename_i e; cases e
    · rename_i e; cases e
    · rename_i e
      injection e with e
      subst e
      simp only [RV] at hr
      subst hr
      split at h
      · simp only [Bool.and_eq_true, beq_iff_eq, decide_eq_true_eq] at h
        simp only [RV, C.ren, h.1]
        refine ⟨h.2, ?_, ?_⟩ <;> first | rfl | trivial
      · simp [RV]
      · simp [RV]
      · cases h
    · rename_i e
      injection e with e
      subst e
      simp only [RV] at hr
      subst hr
      split at h
      · simp [RV]
      · simp [RV]
      · cases h
    · rename_i e; cases e
    · split at h
      · simp [RV]
      · cases h
  | .i _ _, w, u, h, hr | .b _, w, u, h, hr | .x _ _, w, u, h, hr | .ro _ _ _, w, u, h, hr | .rp _ _ _ _, w, u, h, hr | .vw _ _ _ _, w, u, h, hr | .op _ _ _ _, w, u, h, hr | .agg _, w, u, h, hr | .tup _, w, u, h, hr | .nx _ _ _, w, u, h, hr | .pt _, w, u, h, hr | .bk _ _ _ _, w, u, h, hr | .junk, w, u, h, hr => by
    simp only [isV] at h
    split at h
    · simp [RV]
    · cases h
theorem isVs_sound {c : C} {σ : Sg} {nv nr nb : Nat} : ∀ {vs ws : List V} {us : List Value}, isVs σ nv nr nb vs ws = true → RVs c vs us → RVs (c.ren σ nv nr nb) ws us
  | [], ws, us, h, hr => by
    simp only [isVs] at h
    split at h
    · simpa only [RVs] using hr
    · cases h
  | v :: vs, ws, us, h, hr => by
    simp only [isVs] at h
    split at h
    · simp only [Bool.and_eq_true] at h
      simp only [RVs] at hr ⊢
      obtain ⟨u, us', e, h1, h2⟩ := hr
      exact ⟨u, us', e, isV_sound h.1 h1, isVs_sound h.2 h2⟩
    · cases h
end
mutual
def Sh.rd (f : (t : Tp) → V → Option t.T) (σ : Sg) (nv nr nb : Nat) : Sh → V → Option (List U)
  | .d t, v => (f t v).map fun d => [⟨t, d⟩]
  | .is w, v => if isV σ nv nr nb v w then some [] else none
  | .bk r sz, v => match v with | .bk r' sz' k n => if σ.sr r == some r' && sz == sz' && decide (r < nr) then some [⟨.i .i64, k.val⟩, ⟨.i .i64, n.val⟩] else none | _ => none
  | .agg shs, v => match aggOf v with | some l => Sh.rds f σ nv nr nb shs l | none => none
def Sh.rds (f : (t : Tp) → V → Option t.T) (σ : Sg) (nv nr nb : Nat) : List Sh → List V → Option (List U)
  | [], ws => match ws with | [] => some [] | _ => none
  | a :: as, ws => match ws with
    | w :: ws => match a.rd f σ nv nr nb w, Sh.rds f σ nv nr nb as ws with
      | some us, some vs => some (us ++ vs)
      | _, _ => none
    | [] => none
end
mutual
theorem Sh.rd_kn {f : (t : Tp) → V → Option t.T} {σ : Sg} {nv nr nb : Nat} : ∀ (sh : Sh) (v : V) (us : List U), sh.rd f σ nv nr nb v = some us → us.map U.t = sh.kn
  | .d t, v, us, h => by
    simp only [Sh.rd] at h
    obtain ⟨d, hd, rfl⟩ := Option.map_eq_some_iff.1 h
    rfl
  | .is w, v, us, h => by
    simp only [Sh.rd] at h
    split at h
    · obtain rfl := Option.some.inj h; rfl
    · cases h
  | .agg shs, v, us, h => by
    simp only [Sh.rd] at h
    split at h
    · simpa only [Sh.kn] using Sh.rds_kn shs _ us h
    · cases h
  | .bk r sz, v, us, h => by
    simp only [Sh.rd] at h
    split at h
    case h_2 => cases h
    split at h
    · obtain rfl := Option.some.inj h; rfl
    · cases h
theorem Sh.rds_kn {f : (t : Tp) → V → Option t.T} {σ : Sg} {nv nr nb : Nat} : ∀ (shs : List Sh) (vs : List V) (us : List U), Sh.rds f σ nv nr nb shs vs = some us → us.map U.t = Sh.kns shs
  | [], vs, us, h => by
    simp only [Sh.rds] at h
    split at h
    · obtain rfl := Option.some.inj h; rfl
    · cases h
  | a :: as, vs, us, h => by
    simp only [Sh.rds] at h
    split at h
    · split at h
      · rename_i us1 us2 h1 h2
        obtain rfl := Option.some.inj h
        simp [Sh.kns, Sh.rd_kn a _ us1 h1, Sh.rds_kn as _ us2 h2]
      · cases h
    · cases h
end
mutual
/-- What is read stands for the same. -/
theorem Sh.rd_sound {f : (t : Tp) → V → Option t.T} {σ : Sg} {nv nr nb : Nat} {c c1 : C} (hc : ∀ v u, RV (c.ren σ nv nr nb) v u → RV c1 v u) (hf : ∀ t v d u, f t v = some d → RV c v u → RV c1 (toV t d) u) : ∀ (sh : Sh) (v : V) (us : List U), sh.rd f σ nv nr nb v = some us → ∀ l, ∃ v', sh.mk (us ++ l) = (v', l) ∧ ∀ u, RV c v u → RV c1 v' u
  | .d t, v, us, h, l => by
    simp only [Sh.rd] at h
    obtain ⟨d, hd, rfl⟩ := Option.map_eq_some_iff.1 h
    exact ⟨toV t d, by simp [Sh.mk, U.as_self], fun u hu => hf t v d u hd hu⟩
  | .is w, v, us, h, l => by
    simp only [Sh.rd] at h
    split at h
    · rename_i hw
      obtain rfl := Option.some.inj h
      exact ⟨w, rfl, fun u hu => hc _ _ (isV_sound hw hu)⟩
    · cases h
  | .bk r sz, v, us, h, l => by
    simp only [Sh.rd] at h
    split at h
    case h_2 => cases h
    split at h
    case isFalse => cases h
    rename_i r' sz' k n hc'
    simp only [Bool.and_eq_true, beq_iff_eq, decide_eq_true_eq] at hc'
    obtain ⟨⟨e1, rfl⟩, hlt⟩ := hc'
    obtain rfl := Option.some.inj h
    refine ⟨.bk r sz (.s k.val) (.s n.val), by simp [Sh.mk, U.as_self], fun u hu => hc _ _ ?_⟩
    simp only [RV, C.ren, e1, I.val] at hu ⊢
    exact ⟨hlt, hu.2⟩
  | .agg shs, v, us, h, l => by
    simp only [Sh.rd] at h
    split at h
    · rename_i ws hw
      obtain ⟨vs', e, hs⟩ := Sh.rds_sound hc hf shs ws us h l
      refine ⟨.agg vs', by simp only [Sh.mk, e], fun u hu => ?_⟩
      obtain ⟨xs, rfl, hr⟩ := aggOf_sound hu hw
      simp only [RV]
      exact ⟨xs, rfl, hs _ hr⟩
    · cases h
theorem Sh.rds_sound {f : (t : Tp) → V → Option t.T} {σ : Sg} {nv nr nb : Nat} {c c1 : C} (hc : ∀ v u, RV (c.ren σ nv nr nb) v u → RV c1 v u) (hf : ∀ t v d u, f t v = some d → RV c v u → RV c1 (toV t d) u) : ∀ (shs : List Sh) (vs : List V) (us : List U), Sh.rds f σ nv nr nb shs vs = some us → ∀ l, ∃ vs', Sh.mks shs (us ++ l) = (vs', l) ∧ ∀ xs, RVs c vs xs → RVs c1 vs' xs
  | [], vs, us, h, l => by
    simp only [Sh.rds] at h
    split at h
    · obtain rfl := Option.some.inj h
      exact ⟨[], rfl, fun xs hx => by simpa only [RVs] using hx⟩
    · cases h
  | a :: as, vs, us, h, l => by
    simp only [Sh.rds] at h
    split at h
    · rename_i w ws
      split at h
      · rename_i us1 us2 h1 h2
        obtain rfl := Option.some.inj h
        obtain ⟨v', e1, q1⟩ := Sh.rd_sound hc hf a w us1 h1 (us2 ++ l)
        obtain ⟨vs', e2, q2⟩ := Sh.rds_sound hc hf as ws us2 h2 l
        refine ⟨v' :: vs', by simp [Sh.mks, List.append_assoc, e1, e2], fun xs hx => ?_⟩
        simp only [RVs] at hx ⊢
        obtain ⟨u, us', e, r1, r2⟩ := hx
        exact ⟨u, us', e, q1 _ r1, q2 _ r2⟩
      · cases h
    · cases h
end
theorem asD1_RV {c : C} {t : Tp} {v : V} {u : Value} {d : t.T} (h : RV c v u) (hd : asD1 t v = some d) : RV c (toV t d) u := by
  have hR := asD1_sound h hd
  cases t with
  | i k => simp only [Rp, List.cons.injEq, and_true] at hR; simp only [toV, RV, I.val]; exact hR
  | bo => simp only [Rp, List.cons.injEq, and_true] at hR; simp only [toV, RV, B.val]; exact hR
  | tx => simp only [Rp, List.cons.injEq, and_true] at hR; simp only [toV, RV]; exact hR
  | pt => simp only [Rp, List.cons.injEq, and_true] at hR; simp only [toV, RV]; exact hR
  | p a b => simp [asD1] at hd
  | sl t => simp only [toV, RV, I.val]; exact ⟨trivial, hR⟩
  | opt t => simp [toV, RV]
theorem asD_RV {c : C} {t : Tp} {v : V} {u : Value} {d : t.T} (h : RV c v u) (hd : asD t v = some d) : RV c (toV t d) u := by
  have hR := asD_sound h hd
  unfold asD at hd
  split at hd
  · rename_i t' e
    split at hd
    case isFalse => cases hd
    rename_i hp
    cases t with
    | p a b =>
      simp only [RV] at h
      obtain ⟨us, rfl, _⟩ := h
      simp only [toV, RV]
      exact ⟨us, rfl, hR⟩
    | _ => simp [Tp.isP] at hp
  · rename_i l
    split at hd
    case isFalse => cases hd
    rename_i hp
    cases t with
    | p a b =>
      simp only [RV] at h
      obtain ⟨us, rfl, _⟩ := h
      simp only [toV, RV]
      exact ⟨us, rfl, hR⟩
    | _ => simp [Tp.isP] at hp
  · split at hd
    · cases hd
    · exact asD1_RV h hd

/-! ### Patterns -/
def eqI (a b : I) (p : Prop) : Prop := match a, b with
  | .l x, .l y => if x == y then p else False
  | a, b => a.val = b.val ∧ p
def eqBo (a b : B) (p : Prop) : Prop := match a, b with
  | .l x, .l y => if x == y then p else False
  | a, b => a.val = b.val ∧ p
theorem eqI_iff {a b : I} {p : Prop} : eqI a b p ↔ a.val = b.val ∧ p := by
  unfold eqI
  split
  · split
    · rename_i h; simp only [beq_iff_eq] at h; simp [I.val, h]
    · rename_i h; simp only [beq_iff_eq] at h; simp [I.val, h]
  · rfl
theorem eqBo_iff {a b : B} {p : Prop} : eqBo a b p ↔ a.val = b.val ∧ p := by
  unfold eqBo
  split
  · split
    · rename_i h; simp only [beq_iff_eq] at h; simp [B.val, h]
    · rename_i h; simp only [beq_iff_eq] at h; simp [B.val, h]
  · rfl
/-- What is there is as the pattern says. -/
def chkL (σ : Sg) (nv nr nb : Nat) (v w : V) (p : Prop) : Prop :=
  match v, w with
  | .i k n, .i k' n' => if k == k' then eqI n n' p else False
  | .b x, .b y => eqBo x y p
  | .v (.string a), .v (.string b) => a = b ∧ p
  | .pt a, .pt b => a = b ∧ p
  | .v (.pointer none), .pt b => ((-1 : Int), (0 : Int)) = b ∧ p
  | .x t e, .x t' e' => if h : t.eq t' then Tp.cast h e = e' ∧ p else False
  | .ro t n l, .ro t' n' l' => if h : t.eq t' then Tp.castL h l = l' ∧ eqI n n' p else False
  | .vw r sz lo n, .vw k sz' lo' n' => if σ.sr k == some r && sz == sz' && decide (k < nr) then eqI lo lo' (eqI n n' p) else False
  | .op r sz i j, .op k sz' i' j' => if σ.sr k == some r && sz == sz' && j == j' && decide (k < nr) then eqI i i' p else False
  | .bk r sz lo n, .bk k sz' lo' n' => if σ.sr k == some r && sz == sz' && decide (k < nr) then eqI lo lo' (eqI n n' p) else False
  | v, w => if isV σ nv nr nb v w then p else False
theorem chkL_sound {σ : Sg} {nv nr nb : Nat} {v w : V} {p : Prop} (h : chkL σ nv nr nb v w p) : p ∧ ∀ (c : C) (u : Value), RV c v u → RV (c.ren σ nv nr nb) w u := by
  unfold chkL at h
  split at h
  · split at h
    · rename_i hk
      obtain rfl := eq_of_beq hk
      obtain ⟨e, hp⟩ := eqI_iff.1 h
      exact ⟨hp, fun c u hr => by simp only [RV] at hr ⊢; rw [hr, e]⟩
    · exact h.elim
  · obtain ⟨e, hp⟩ := eqBo_iff.1 h
    exact ⟨hp, fun c u hr => by simp only [RV] at hr ⊢; rw [hr, e]⟩
  · obtain ⟨rfl, hp⟩ := h
    exact ⟨hp, fun c u hr => by simpa only [RV] using hr⟩
  · obtain ⟨rfl, hp⟩ := h
    exact ⟨hp, fun c u hr => by simpa only [RV] using hr⟩
  · obtain ⟨rfl, hp⟩ := h
    exact ⟨hp, fun c u hr => by simp only [RV] at hr ⊢; rw [hr]; rfl⟩
  · split at h
    · rename_i ht
      obtain ⟨rfl, hp⟩ := h
      exact ⟨hp, fun c u hr => by
        simp only [RV] at hr ⊢
        obtain ⟨us, e, hq⟩ := hr
        exact ⟨us, e, Rp.cast ht (hq.le (c.ren_le0 σ nv nr nb))⟩⟩
    · exact h.elim
  · split at h
    · rename_i ht
      obtain ⟨rfl, h⟩ := h
      obtain ⟨e, hp⟩ := eqI_iff.1 h
      obtain rfl := Tp.of_eq ht
      exact ⟨hp, fun c u hr => by
        simp only [RV] at hr ⊢
        exact ⟨by rw [← e, Tp.castL_length]; exact hr.1, hr.2.le (c.ren_le0 σ nv nr nb)⟩⟩
    · exact h.elim
  · split at h
    · rename_i hc
      simp only [Bool.and_eq_true, beq_iff_eq, decide_eq_true_eq] at hc
      obtain ⟨⟨e1, rfl⟩, hlt⟩ := hc
      obtain ⟨e2, h⟩ := eqI_iff.1 h
      obtain ⟨e3, hp⟩ := eqI_iff.1 h
      exact ⟨hp, fun c u hr => by
        simp only [RV, C.ren, e1] at hr ⊢
        rw [← e2, ← e3]
        exact ⟨hlt, hr.2⟩⟩
    · exact h.elim
  · split at h
    · rename_i hc
      simp only [Bool.and_eq_true, beq_iff_eq, decide_eq_true_eq] at hc
      obtain ⟨⟨⟨e1, rfl⟩, rfl⟩, hlt⟩ := hc
      obtain ⟨e2, hp⟩ := eqI_iff.1 h
      exact ⟨hp, fun c u hr => by
        simp only [RV, C.ren, e1] at hr ⊢
        rw [← e2]
        exact ⟨hlt, hr.2⟩⟩
    · exact h.elim
  · split at h
    · rename_i hc
      simp only [Bool.and_eq_true, beq_iff_eq, decide_eq_true_eq] at hc
      obtain ⟨⟨e1, rfl⟩, hlt⟩ := hc
      obtain ⟨e2, h⟩ := eqI_iff.1 h
      obtain ⟨e3, hp⟩ := eqI_iff.1 h
      exact ⟨hp, fun c u hr => by
        simp only [RV, C.ren, e1] at hr ⊢
        rw [← e2, ← e3]
        exact ⟨hlt, hr.2⟩⟩
    · exact h.elim
  · split at h
    · rename_i hc
      exact ⟨h, fun c u hr => isV_sound hc hr⟩
    · exact h.elim
mutual
def chkV (σ : Sg) (nv nr nb : Nat) : V → V → Prop → Prop
  | .agg l', v, p => match aggOf v with | some l => chkVs σ nv nr nb l' l p | none => False
  | .tup l', v, p => match v with | .tup l => chkVs σ nv nr nb l' l p | _ => False
  | .x t e, v, p => match v with
    | .agg l => match asDl t l with | some d => d = e ∧ p | none => False
    | v => chkL σ nv nr nb v (.x t e) p
  | .junk, _, p => p
  | w, v, p => chkL σ nv nr nb v w p
def chkVs (σ : Sg) (nv nr nb : Nat) : List V → List V → Prop → Prop
  | [], vs, p => match vs with | [] => p | _ => False
  | w :: ws, vs, p => match vs with | v :: vs => chkV σ nv nr nb w v (chkVs σ nv nr nb ws vs p) | [] => False
end
mutual
theorem chkV_sound {σ : Sg} {nv nr nb : Nat} : ∀ (w v : V) (p : Prop), chkV σ nv nr nb w v p → p ∧ ∀ (c : C) (u : Value), RV c v u → RV (c.ren σ nv nr nb) w u
  | .agg l', v, p, h => by
    simp only [chkV] at h
    split at h
    · rename_i l hl
      obtain ⟨hp, hs⟩ := chkVs_sound l' l p h
      refine ⟨hp, fun c u hr => ?_⟩
      obtain ⟨us, rfl, hq⟩ := aggOf_sound hr hl
      simp only [RV]
      exact ⟨us, rfl, hs c _ hq⟩
    · exact h.elim
  | .tup l', v, p, h => by
    simp only [chkV] at h
    split at h
    · rename_i l
      obtain ⟨hp, hs⟩ := chkVs_sound l' l p h
      refine ⟨hp, fun c u hr => ?_⟩
      simp only [RV] at hr ⊢
      obtain ⟨us, rfl, hq⟩ := hr
      exact ⟨us, rfl, hs c _ hq⟩
    · exact h.elim
  | .x t e, v, p, h => by
    simp only [chkV] at h
    split at h
    · rename_i l
      split at h
      · rename_i d hd
        obtain ⟨rfl, hp⟩ := h
        refine ⟨hp, fun c u hr => ?_⟩
        simp only [RV] at hr ⊢
        obtain ⟨us, rfl, hq⟩ := hr
        exact ⟨us, rfl, (asDl_sound hq hd).le (c.ren_le0 σ nv nr nb)⟩
      · exact h.elim
    · exact chkL_sound h
  | .junk, v, p, h => ⟨by simpa only [chkV] using h, fun c u _ => by simp [RV]⟩
  | .fn _ _, v, p, h | .i _ _, v, p, h | .nx _ _ _, v, p, h | .pt _, v, p, h | .bk _ _ _ _, v, p, h | .b _, v, p, h | .v _, v, p, h | .lp _ _, v, p, h | .ro _ _ _, v, p, h | .rp _ _ _ _, v, p, h | .own _, v, p, h | .obj _, v, p, h | .vw _ _ _ _, v, p, h | .op _ _ _ _, v, p, h => chkL_sound (by simpa only [chkV] using h)
theorem chkVs_sound {σ : Sg} {nv nr nb : Nat} : ∀ (ws vs : List V) (p : Prop), chkVs σ nv nr nb ws vs p → p ∧ ∀ (c : C) (us : List Value), RVs c vs us → RVs (c.ren σ nv nr nb) ws us
  | [], vs, p, h => by
    simp only [chkVs] at h
    split at h
    · exact ⟨h, fun c us hr => by simpa only [RVs] using hr⟩
    · exact h.elim
  | w :: ws, vs, p, h => by
    simp only [chkVs] at h
    split at h
    · obtain ⟨h1, h2⟩ := chkV_sound w _ _ h
      obtain ⟨h3, h4⟩ := chkVs_sound ws _ p h1
      refine ⟨h3, fun c us hr => ?_⟩
      simp only [RVs] at hr ⊢
      obtain ⟨u, us', e, q1, q2⟩ := hr
      exact ⟨u, us', e, h2 c _ q1, h4 c _ q2⟩
    · exact h.elim
end
def chkCt (σ : Sg) (nv nr nb : Nat) (w v : Ctn) (p : Prop) : Prop :=
  match w, v with
  | .pk t e, .pk t' e' => if h : t'.eq t then Tp.cast h e' = e ∧ p else False
  | .pk t e, .ls l => match asDl t l with | some d => d = e ∧ p | none => False
  | .ls l, v => chkVs σ nv nr nb l v.cells p
theorem chkCt_sound {σ : Sg} {nv nr nb : Nat} {w v : Ctn} {p : Prop} (h : chkCt σ nv nr nb w v p) : p ∧ ∀ (c : C) (us : List Value), RCt c v us → RCt (c.ren σ nv nr nb) w us := by
  unfold chkCt at h
  split at h
  · split at h
    · rename_i ht
      obtain ⟨rfl, hp⟩ := h
      exact ⟨hp, fun c us hr => Rp.cast ht (Rp.le (c.ren_le0 σ nv nr nb) hr)⟩
    · exact h.elim
  · split at h
    · rename_i d hd
      obtain ⟨rfl, hp⟩ := h
      exact ⟨hp, fun c us hr => (asDl_sound hr hd).le (c.ren_le0 σ nv nr nb)⟩
    · exact h.elim
  · obtain ⟨hp, hs⟩ := chkVs_sound _ _ _ h
    exact ⟨hp, fun c us hr => hs c us hr.cells⟩
def chkVars (σ : Sg) (nv nr nb : Nat) (s : List Var) : Nat → List Var → Prop → Prop
  | _, [], p => p
  | k, b :: bs, p => if b.live then (match s[σ.sv k]? with
      | some b' => if b'.live then chkCt σ nv nr nb b.ct b'.ct (chkVars σ nv nr nb s (k + 1) bs p) else False
      | none => False)
    else chkVars σ nv nr nb s (k + 1) bs p
def chkRows (σ : Sg) (s : List Row) : Nat → List Row → Prop → Prop
  | _, [], p => p
  | k, b :: bs, p => if b.live then (match σ.sr k with
      | some r => match s[r]? with
        | some b' => if b'.live && b'.fix == b.fix && b'.e == b.e then (if h : b'.t.eq b.t then Tp.castL h b'.l = b.l ∧ eqI b'.n b.n (chkRows σ s (k + 1) bs p) else False) else False
        | none => False
      | none => if b.fix then False else b.l = [] ∧ eqI (.l 0) b.n (chkRows σ s (k + 1) bs p))
    else chkRows σ s (k + 1) bs p
theorem chkVars_sound {σ : Sg} {nv nr nb : Nat} {s : List Var} : ∀ {k : Nat} {bs : List Var} {p : Prop}, chkVars σ nv nr nb s k bs p → p ∧ ∀ (j : Nat) (b : Var), bs[j]? = some b → b.live = true → ∃ b' : Var, s[σ.sv (k + j)]? = some b' ∧ b'.live = true ∧ ∀ (c : C) (us : List Value), RCt c b'.ct us → RCt (c.ren σ nv nr nb) b.ct us
  | k, [], p, h => ⟨h, fun j b hb => by simp at hb⟩
  | k, b :: bs, p, h => by
    simp only [chkVars] at h
    split at h
    · split at h
      case h_2 => exact h.elim
      rename_i b' hb'
      split at h
      case isFalse => exact h.elim
      rename_i hl'
      obtain ⟨h1, h2⟩ := chkCt_sound h
      obtain ⟨h3, h4⟩ := chkVars_sound h1
      refine ⟨h3, fun j b0 hj hl => ?_⟩
      cases j with
      | zero => simp at hj; subst hj; exact ⟨b', hb', hl', h2⟩
      | succ j => rw [show k + (j + 1) = k + 1 + j from by omega]; exact h4 j b0 (by simpa using hj) hl
    · rename_i hd
      obtain ⟨h3, h4⟩ := chkVars_sound h
      refine ⟨h3, fun j b0 hj hl => ?_⟩
      cases j with
      | zero => simp at hj; subst hj; exact absurd hl hd
      | succ j => rw [show k + (j + 1) = k + 1 + j from by omega]; exact h4 j b0 (by simpa using hj) hl
theorem chkRows_sound {σ : Sg} {s : List Row} : ∀ {k : Nat} {bs : List Row} {p : Prop}, chkRows σ s k bs p → p ∧ ∀ (j : Nat) (b : Row), bs[j]? = some b → b.live = true →
    (∃ r b', σ.sr (k + j) = some r ∧ s[r]? = some b' ∧ b'.live = true ∧ b'.fix = b.fix ∧ b'.e = b.e ∧ b'.n.val = b.n.val ∧ ∃ h : b'.t.eq b.t = true, Tp.castL h b'.l = b.l) ∨ (σ.sr (k + j) = none ∧ b.fix = false ∧ b.l = [] ∧ b.n.val = 0)
  | k, [], p, h => ⟨h, fun j b hb => by simp at hb⟩
  | k, b :: bs, p, h => by
    have step : ∀ {q : Prop}, q → (q → p ∧ ∀ (j : Nat) (b : Row), bs[j]? = some b → b.live = true →
      (∃ r b', σ.sr (k + 1 + j) = some r ∧ s[r]? = some b' ∧ b'.live = true ∧ b'.fix = b.fix ∧ b'.e = b.e ∧ b'.n.val = b.n.val ∧ ∃ h : b'.t.eq b.t = true, Tp.castL h b'.l = b.l) ∨ (σ.sr (k + 1 + j) = none ∧ b.fix = false ∧ b.l = [] ∧ b.n.val = 0)) →
      (b.live = true → (∃ r b', σ.sr k = some r ∧ s[r]? = some b' ∧ b'.live = true ∧ b'.fix = b.fix ∧ b'.e = b.e ∧ b'.n.val = b.n.val ∧ ∃ h : b'.t.eq b.t = true, Tp.castL h b'.l = b.l) ∨ (σ.sr k = none ∧ b.fix = false ∧ b.l = [] ∧ b.n.val = 0)) →
      p ∧ ∀ (j : Nat) (b' : Row), (b :: bs)[j]? = some b' → b'.live = true →
      (∃ r b'', σ.sr (k + j) = some r ∧ s[r]? = some b'' ∧ b''.live = true ∧ b''.fix = b'.fix ∧ b''.e = b'.e ∧ b''.n.val = b'.n.val ∧ ∃ h : b''.t.eq b'.t = true, Tp.castL h b''.l = b'.l) ∨ (σ.sr (k + j) = none ∧ b'.fix = false ∧ b'.l = [] ∧ b'.n.val = 0) := fun hq ih h0 => by
      obtain ⟨h3, h4⟩ := ih hq
      refine ⟨h3, fun j b' hj hl => ?_⟩
      cases j with
      | zero => simp at hj; subst hj; exact h0 hl
      | succ j => rw [show k + (j + 1) = k + 1 + j from by omega]; exact h4 j b' (by simpa using hj) hl
    simp only [chkRows] at h
    split at h
    · split at h
      · rename_i r hr
        split at h
        case h_2 => exact h.elim
        rename_i b' hb'
        split at h
        case isFalse => exact h.elim
        rename_i hc
        simp only [Bool.and_eq_true, beq_iff_eq] at hc
        split at h
        case isFalse => exact h.elim
        rename_i ht
        obtain ⟨e1, h⟩ := h
        obtain ⟨e2, h⟩ := eqI_iff.1 h
        exact step h (fun h => chkRows_sound h) (fun _ => .inl ⟨r, b', hr, hb', hc.1.1, hc.1.2, hc.2, e2, ht, e1⟩)
      · rename_i hr
        split at h
        · exact h.elim
        rename_i hf
        obtain ⟨e1, h⟩ := h
        obtain ⟨e2, h⟩ := eqI_iff.1 h
        exact step h (fun h => chkRows_sound h) (fun _ => .inr ⟨hr, by simpa using hf, e1, e2.symm⟩)
    · rename_i hl
      exact step h (fun h => chkRows_sound h) (fun h => absurd h hl)
def chkObjs (σ : Sg) (s : List Ob) : Nat → List Ob → Prop → Prop
  | _, [], p => p
  | k, b :: bs, p => if b.live then (match s[σ.so k]? with
      | some b' => if b'.live && decide (b'.k = b.k) then (if h : b'.t.eq b.t then Tp.cast h b'.e = b.e ∧ chkObjs σ s (k + 1) bs p else False) else False
      | none => False)
    else chkObjs σ s (k + 1) bs p
theorem chkObjs_sound {σ : Sg} {s : List Ob} : ∀ {k : Nat} {bs : List Ob} {p : Prop}, chkObjs σ s k bs p → p ∧ ∀ (j : Nat) (b : Ob), bs[j]? = some b → b.live = true → s[σ.so (k + j)]? = some b
  | k, [], p, h => ⟨h, fun j b hb => by simp at hb⟩
  | k, b :: bs, p, h => by
    simp only [chkObjs] at h
    split at h
    · rename_i hlb
      split at h
      case h_2 => exact h.elim
      rename_i b' hb'
      split at h
      case isFalse => exact h.elim
      rename_i hc
      simp only [Bool.and_eq_true, decide_eq_true_eq] at hc
      split at h
      case isFalse => exact h.elim
      rename_i ht
      obtain ⟨h1, h2⟩ := h
      obtain ⟨h3, h4⟩ := chkObjs_sound h2
      refine ⟨h3, fun j b0 hj hl => ?_⟩
      cases j with
      | zero =>
        simp at hj; subst hj
        rw [Nat.add_zero, hb']
        obtain ⟨l', k', t', e'⟩ := b'
        obtain ⟨l, k2, t, e⟩ := b
        simp only at hc hlb ht h1
        obtain ⟨rfl, rfl⟩ := hc
        subst hlb
        obtain rfl := Tp.of_eq ht
        rw [Tp.cast_rfl] at h1
        rw [h1]
      | succ j => rw [show k + (j + 1) = k + 1 + j from by omega]; exact h4 j b0 (by simpa using hj) hl
    · rename_i hd
      obtain ⟨h3, h4⟩ := chkObjs_sound h
      refine ⟨h3, fun j b0 hj hl => ?_⟩
      cases j with
      | zero => simp at hj; subst hj; exact absurd hl hd
      | succ j => rw [show k + (j + 1) = k + 1 + j from by omega]; exact h4 j b0 (by simpa using hj) hl
/-- No root is met twice. -/
def nodupN : List Nat → Bool
  | [] => true
  | x :: l => !(l.any (· == x)) && nodupN l
theorem nodupN_get : ∀ {l : List Nat} {i j x : Nat}, nodupN l = true → l[i]? = some x → l[j]? = some x → i = j
  | [], i, j, x, _, h, _ => by simp at h
  | y :: l, i, j, x, hn, h, h' => by
    simp only [nodupN, Bool.and_eq_true, Bool.not_eq_true'] at hn
    have no : ∀ q, l[q]? = some y → False := fun q hq => by
      have : (l.any fun z => z == y) = true := List.any_eq_true.2 ⟨y, List.mem_of_getElem? hq, beq_self_eq_true y⟩
      rw [hn.1] at this; cases this
    cases i with
    | zero =>
      cases j with
      | zero => rfl
      | succ j => simp at h h'; subst h; exact (no j h').elim
    | succ i =>
      cases j with
      | zero => simp at h h'; subst h'; exact (no i h).elim
      | succ j => simp at h h'; rw [nodupN_get hn.2 h h']
def Sg.ok (σ : Sg) (nv nr nb : Nat) : Bool := nodupN ((List.range nv).map σ.sv) && nodupN ((List.range nr).filterMap σ.sr) && nodupN ((List.range nb).map σ.so)
theorem Sg.sv_inj {σ : Sg} {nv nr nb x y : Nat} (h : σ.ok nv nr nb = true) (hx : x < nv) (hy : y < nv) (e : σ.sv x = σ.sv y) : x = y := by
  simp only [Sg.ok, Bool.and_eq_true] at h
  refine nodupN_get h.1.1 (x := σ.sv x) ?_ ?_
  · simp [hx]
  · simp [hy, e]
theorem Sg.so_inj {σ : Sg} {nv nr nb x y : Nat} (h : σ.ok nv nr nb = true) (hx : x < nb) (hy : y < nb) (e : σ.so x = σ.so y) : x = y := by
  simp only [Sg.ok, Bool.and_eq_true] at h
  refine nodupN_get h.2 (x := σ.so x) ?_ ?_
  · simp [hx]
  · simp [hy, e]
theorem filterMap_inj {f : Nat → Option Nat} : ∀ {l : List Nat} {i j a b x : Nat}, nodupN (l.filterMap f) = true → l[i]? = some a → l[j]? = some b → f a = some x → f b = some x → i = j
  | [], i, j, a, b, x, _, h, _, _, _ => by simp at h
  | y :: l, i, j, a, b, x, hn, ha, hb, fa, fb => by
    have mem : ∀ q z, l[q]? = some z → f z = some x → x ∈ l.filterMap f := fun q z hq hz => List.mem_filterMap.2 ⟨z, List.mem_of_getElem? hq, hz⟩
    have hn' : nodupN (l.filterMap f) = true := by
      rw [List.filterMap_cons] at hn
      split at hn
      · exact hn
      · simp only [nodupN, Bool.and_eq_true] at hn; exact hn.2
    have no : f y = some x → x ∈ l.filterMap f → False := fun hy hx => by
      rw [List.filterMap_cons, hy] at hn
      simp only [nodupN, Bool.and_eq_true, Bool.not_eq_true'] at hn
      have : ((l.filterMap f).any fun z => z == x) = true := List.any_eq_true.2 ⟨x, hx, beq_self_eq_true x⟩
      rw [hn.1] at this; cases this
    cases i with
    | zero =>
      cases j with
      | zero => rfl
      | succ j => simp at ha hb; subst ha; exact (no fa (mem j b hb fb)).elim
    | succ i =>
      cases j with
      | zero => simp at ha hb; subst hb; exact (no fb (mem i a ha fa)).elim
      | succ j => simp at ha hb; rw [filterMap_inj hn' ha hb fa fb]
theorem Sg.sr_inj {σ : Sg} {nv nr nb x y r : Nat} (h : σ.ok nv nr nb = true) (hx : x < nr) (hy : y < nr) (ex : σ.sr x = some r) (ey : σ.sr y = some r) : x = y := by
  simp only [Sg.ok, Bool.and_eq_true] at h
  exact filterMap_inj h.1.2 (by simp [hx]) (by simp [hy]) ex ey
end Go.Fx
