/- Kinds of data; values, and names for what is not known; what they stand for. No program in sight. -/
import Derived.WalkKit
set_option linter.all false
namespace Go.Fx
open Go Go.RowKit

/-! ### Data -/
inductive Tp where
  | i (k : IntKind)
  | bo
  | tx
  | p (a b : Tp)
  | sl (t : Tp)
  | opt (t : Tp)
  | pt
def Tp.eq : Tp → Tp → Bool
  | .i k, .i k' => k == k'
  | .bo, .bo => true
  | .tx, .tx => true
  | .p a b, .p a' b' => a.eq a' && b.eq b'
  | .sl t, .sl t' => t.eq t'
  | .opt t, .opt t' => t.eq t'
  | .pt, .pt => true
  | _, _ => false
theorem Tp.of_eq {a b : Tp} (h : a.eq b = true) : a = b := by
  induction a generalizing b with
  | i k => cases b <;> simp_all [Tp.eq]
  | bo => cases b <;> simp_all [Tp.eq]
  | tx => cases b <;> simp_all [Tp.eq]
  | pt => cases b <;> simp_all [Tp.eq]
  | p x y hx hy =>
    cases b with
    | p x' y' =>
      simp only [Tp.eq, Bool.and_eq_true] at h
      rw [hx h.1, hy h.2]
    | _ => simp [Tp.eq] at h
  | sl x hx =>
    cases b with
    | sl x' => rw [hx (b := x') h]
    | _ => simp [Tp.eq] at h
  | opt x hx =>
    cases b with
    | opt x' => rw [hx (b := x') h]
    | _ => simp [Tp.eq] at h
theorem Tp.eq_self : ∀ a : Tp, a.eq a = true
  | .i k => by simp [Tp.eq]
  | .bo | .tx | .pt => rfl
  | .p a b => by simp [Tp.eq, a.eq_self, b.eq_self]
  | .sl t | .opt t => by simp [Tp.eq, t.eq_self]
abbrev Tp.T : Tp → Type
  | .i _ => Int
  | .bo => Bool
  | .tx => ByteArray
  | .p a b => a.T × b.T
  | .sl t => List t.T
  | .opt t => Option t.T
  | .pt => Int × Int
def Tp.size : Tp → Nat
  | .p a b => a.size + b.size
  | _ => 1
def Tp.flat : Tp → Bool
  | .p a b => a.flat && b.flat
  | .sl _ => false
  | .opt _ => false
  | _ => true
def Tp.isP : Tp → Bool
  | .p _ _ => true
  | _ => false
@[reducible] def Tp.inh : (t : Tp) → Inhabited t.T
  | .i _ => (inferInstance : Inhabited Int)
  | .bo => (inferInstance : Inhabited Bool)
  | .tx => (inferInstance : Inhabited ByteArray)
  | .p a b => @instInhabitedProd a.T b.T a.inh b.inh
  | .sl t => (inferInstance : Inhabited (List t.T))
  | .opt t => (inferInstance : Inhabited (Option t.T))
  | .pt => (inferInstance : Inhabited (Int × Int))
def Tp.z : (t : Tp) → t.T
  | .i _ => (0 : Int)
  | .bo => false
  | .tx => ByteArray.empty
  | .p a b => (a.z, b.z)
  | .sl _ => []
  | .opt _ => none
  | .pt => ((-1 : Int), (0 : Int))
/-- The element of a number. -/
def ix {α : Type} [Inhabited α] (l : List α) (i : Int) : α := l.getD i.toNat default
def Tp.ix (t : Tp) (l : List t.T) (i : Int) : t.T := @Fx.ix t.T t.inh l i
theorem Tp.size_pos : ∀ t : Tp, 0 < t.size
  | .i _ | .bo | .tx | .sl _ | .opt _ | .pt => Nat.one_pos
  | .p a b => Nat.lt_of_lt_of_le a.size_pos (Nat.le_add_right _ _)
def Tp.cast {a b : Tp} (h : a.eq b = true) (e : a.T) : b.T := _root_.cast (congrArg Tp.T (Tp.of_eq h)) e
def Tp.castL {a b : Tp} (h : a.eq b = true) (e : List a.T) : List b.T := _root_.cast (congrArg (fun t : Tp => List t.T) (Tp.of_eq h)) e
/-- The part of a kind that stands at a cell. -/
def Tp.sub (t : Tp) : (τ : Tp) → τ.T → Nat → Option t.T
  | .p a b, e, j => if h : (Tp.p a b).eq t && j == 0 then some (Tp.cast (Bool.and_eq_true_iff.1 h).1 e) else if j < a.size then Tp.sub t a e.1 j else Tp.sub t b e.2 (j - a.size)
  | .i k, e, j => if h : (Tp.i k).eq t && j == 0 then some (Tp.cast (Bool.and_eq_true_iff.1 h).1 e) else none
  | .bo, e, j => if h : Tp.bo.eq t && j == 0 then some (Tp.cast (Bool.and_eq_true_iff.1 h).1 e) else none
  | .tx, e, j => if h : Tp.tx.eq t && j == 0 then some (Tp.cast (Bool.and_eq_true_iff.1 h).1 e) else none
  | .pt, e, j => if h : Tp.pt.eq t && j == 0 then some (Tp.cast (Bool.and_eq_true_iff.1 h).1 e) else none
  | .sl q, e, j => if h : (Tp.sl q).eq t && j == 0 then some (Tp.cast (Bool.and_eq_true_iff.1 h).1 e) else none
  | .opt _, _, _ => none
theorem Tp.eq_comm {a b : Tp} (h : a.eq b = true) : b.eq a = true := by rw [Tp.of_eq h]; exact Tp.eq_self _
/-- The same with that part otherwise. -/
def Tp.upd (t : Tp) (v : t.T) : (τ : Tp) → τ.T → Nat → Option τ.T
  | .p a b, e, j => if h : (Tp.p a b).eq t && j == 0 then some (Tp.cast (Tp.eq_comm (Bool.and_eq_true_iff.1 h).1) v) else if j < a.size then (Tp.upd t v a e.1 j).map (fun x => (x, e.2)) else (Tp.upd t v b e.2 (j - a.size)).map (fun x => (e.1, x))
  | .i k, _, j => if h : (Tp.i k).eq t && j == 0 then some (Tp.cast (Tp.eq_comm (Bool.and_eq_true_iff.1 h).1) v) else none
  | .bo, _, j => if h : Tp.bo.eq t && j == 0 then some (Tp.cast (Tp.eq_comm (Bool.and_eq_true_iff.1 h).1) v) else none
  | .tx, _, j => if h : Tp.tx.eq t && j == 0 then some (Tp.cast (Tp.eq_comm (Bool.and_eq_true_iff.1 h).1) v) else none
  | .pt, _, j => if h : Tp.pt.eq t && j == 0 then some (Tp.cast (Tp.eq_comm (Bool.and_eq_true_iff.1 h).1) v) else none
  | .sl q, _, j => if h : (Tp.sl q).eq t && j == 0 then some (Tp.cast (Tp.eq_comm (Bool.and_eq_true_iff.1 h).1) v) else none
  | .opt _, _, _ => none

/-! ### Values -/
inductive I where
  | l (n : Int)
  | s (n : Int)
def I.val : I → Int
  | .l n => n
  | .s n => n
inductive B where
  | l (b : Bool)
  | s (b : Bool)
def B.val : B → Bool
  | .l b => b
  | .s b => b
inductive V where
  | i (k : IntKind) (n : I)
  | b (x : B)
  | v (v : Value)
  | x (t : Tp) (e : t.T)
  | ro (t : Tp) (n : I) (l : List t.T)
  | rp (t : Tp) (l : List t.T) (i : I) (j : Nat)
  | lp (x o : Nat)
  | own (r : Nat)
  | vw (r sz : Nat) (lo n : I)
  | op (r sz : Nat) (i : I) (j : Nat)
  | fn (f : FuncId) (caps : List V)
  | agg (cells : List V)
  | tup (vs : List V)
  | obj (x : Nat)
  | nx (b : Bool) (p r : Int)
  | pt (e : Int × Int)
  | bk (r sz : Nat) (k n : I)
  | junk
/-- Data as a value. -/
def toV : (t : Tp) → t.T → V
  | .i k, n => .i k (.s n)
  | .bo, x => .b (.s x)
  | .tx, x => .v (.string x)
  | .p a b, e => .x (.p a b) e
  | .sl t, l => .ro t (.s (l.length : Int)) l
  | .opt _, _ => .junk
  | .pt, e => .pt e
/-- Data cell by cell. -/
def Tp.cells : (t : Tp) → t.T → List V
  | .p a b, e => a.cells e.1 ++ b.cells e.2
  | .i k, n => [.i k (.s n)]
  | .bo, x => [.b (.s x)]
  | .tx, x => [.v (.string x)]
  | .sl t, l => [.ro t (.s (l.length : Int)) l]
  | .opt _, _ => [.junk]
  | .pt, e => [.pt e]
/-- A place, as a pointer: block and place in it; none where the block is less than nought. -/
def ptrU (e : Int × Int) : Value := if e.1 < 0 then .pointer none else .pointer (some ⟨e.1.toNat, e.2.toNat, none⟩)
theorem ptrU_one (e : Int × Int) : (ptrU e).oneCell' = true := by unfold ptrU; split <;> rfl

/-! ### What they stand for -/
abbrev Foot := Nat → Nat → Prop
/-- What stands at a place, and what its block is. -/
def spot (w : World) (k o : Nat) : Option (Obj × Nat) :=
  match w.heap[k]? with
  | some (.cells c e f) => some (.cells (c.extract o (o + 1)) e f, c.size)
  | some ob => some (ob, 0)
  | none => none
structure C where
  w : World
  F : Foot
  g : Nat → Nat × Nat
  r : Nat → Value
  ob : Nat → Value
  fo : Nat → Foot
  nv : Nat
  nr : Nat
  nb : Nat
/-- Cells that may be read. -/
structure Seg (c : C) (g o : Nat) (us : List Value) : Prop where
  lent : ∀ j, j < us.length → c.F g (o + j)
  cell : ∀ j u, us[j]? = some u → c.w.cell? ⟨g, o + j, none⟩ = some u
  one : ∀ u ∈ us, u.oneCell' = true
def RpL {α : Type} (R : α → List Value → Prop) : List α → List Value → Prop
  | [], us => us = []
  | x :: l, us => ∃ u1 u2, us = u1 ++ u2 ∧ R x u1 ∧ RpL R l u2
/-- Data, in cells. -/
def Rp (c : C) : (t : Tp) → t.T → List Value → Prop
  | .i k, n, us => us = [.int k n]
  | .bo, x, us => us = [.bool x]
  | .tx, x, us => us = [.string x]
  | .p a b, e, us => ∃ u1 u2, us = u1 ++ u2 ∧ Rp c a e.1 u1 ∧ Rp c b e.2 u2
  | .sl t, l, us => ∃ A cp, us = [.slice A l.length cp] ∧ l.length ≤ cp ∧ cp ≤ maxLen ∧ (l = [] ∨ ∃ g o vs, A = some ⟨g, o, none⟩ ∧ Seg c g o vs ∧ RpL (fun x us => Rp c t x us) l vs)
  | .opt _, e, us => us = [.bool e.isSome]
  | .pt, e, us => us = [ptrU e]
/-- A slice of which the end is a row of its own. -/
def BkOK (v : Value) (sz : Nat) (k n : Int) (u : Value) : Prop := 0 ≤ k ∧ k ≤ n ∧ ∃ A cap A2 cp, u = .slice A n.toNat cap ∧ n.toNat ≤ cap ∧ cap ≤ maxLen ∧ v = .slice A2 (n.toNat - k.toNat) cp ∧ (k = n ∨ ∃ g o, A = some ⟨g, o, none⟩ ∧ A2 = some ⟨g, o + k.toNat * sz, none⟩)
mutual
def RV (c : C) : V → Value → Prop
  | .i k n, u => u = .int k n.val
  | .b x, u => u = .bool x.val
  | .v v, u => u = v
  | .x t e, u => ∃ us, u = .agg us ∧ Rp c t e us.toList
  | .ro t n l, u => n.val = l.length ∧ Rp c (.sl t) l [u]
  | .rp t l i j, u => 0 ≤ i.val ∧ i.val < l.length ∧ ∃ g o vs, u = .pointer (some ⟨g, o + (i.val.toNat * t.size + j), none⟩) ∧ Seg c g o vs ∧ RpL (Rp c t) l vs
  | .lp x o, u => x < c.nv ∧ u = .pointer (some ⟨(c.g x).1, (c.g x).2 + o, none⟩)
  | .own r, u => r < c.nr ∧ u = c.r r ∧ (c.r r).oneCell' = true
  | .vw r sz lo n, u => r < c.nr ∧ ∃ A m cap A' cp, c.r r = .slice A m cap ∧ (m = 0 ∨ ∃ g o, A = some ⟨g, o, none⟩) ∧ 0 ≤ lo.val ∧ 0 ≤ n.val ∧ lo.val.toNat + n.val.toNat ≤ m ∧ u = .slice A' n.val.toNat cp ∧ n.val.toNat ≤ cp ∧ cp ≤ maxLen ∧ ((0 < n.val ∨ lo.val = 0) → A' = A.map (·.add (lo.val.toNat * sz))) ∧ cp = cap - lo.val.toNat
  | .op r sz i j, u => r < c.nr ∧ ∃ g o n cap, c.r r = .slice (some ⟨g, o, none⟩) n cap ∧ 0 ≤ i.val ∧ i.val.toNat < n ∧ u = .pointer (some ⟨g, o + (i.val.toNat * sz + j), none⟩)
  | .fn f l, u => ∃ us, u = .func (.func f) #[] us ∧ RVs c l us.toList
  | .agg l, u => ∃ us, u = .agg us ∧ RVs c l us.toList
  | .tup l, u => ∃ us, u = .tuple us ∧ RVs c l us.toList
  | .obj x, u => x < c.nb ∧ u = c.ob x ∧ (c.ob x).oneCell' = true
  | .nx b p r, u => u = if b then .tuple #[.bool true, .int .i64 p, .int .i32 r] else .tuple #[.bool false]
  | .pt e, u => u = ptrU e
  | .bk r sz k n, u => r < c.nr ∧ BkOK (c.r r) sz k.val n.val u
  | .junk, _ => True
def RVs (c : C) : List V → List Value → Prop
  | [], us => us = []
  | v :: vs, us => ∃ u us', us = u :: us' ∧ RV c v u ∧ RVs c vs us'
end

/-! ### Rows of data -/
theorem RpL.mono {α : Type} {R R' : α → List Value → Prop} (h : ∀ x us, R x us → R' x us) : ∀ {l : List α} {us : List Value}, RpL R l us → RpL R' l us
  | [], _, hl => hl
  | x :: l, us, hl => by
    obtain ⟨u1, u2, e, h1, h2⟩ := hl
    exact ⟨u1, u2, e, h _ _ h1, RpL.mono h h2⟩
theorem RpL.length {α : Type} {R : α → List Value → Prop} {sz : Nat} (h : ∀ x us, R x us → us.length = sz) : ∀ {l : List α} {us : List Value}, RpL R l us → us.length = l.length * sz
  | [], us, hl => by simp only [RpL] at hl; simp [hl]
  | x :: l, us, hl => by
    obtain ⟨u1, u2, rfl, h1, h2⟩ := hl
    simp [h _ _ h1, RpL.length h h2, Nat.add_mul, Nat.add_comm]
theorem RpL.append {α : Type} {R : α → List Value → Prop} : ∀ {l : List α} {us : List Value} {l' : List α} {us' : List Value}, RpL R l us → RpL R l' us' → RpL R (l ++ l') (us ++ us')
  | [], us, l', us', h, h' => by simp only [RpL] at h; subst h; exact h'
  | x :: l, us, l', us', h, h' => by
    obtain ⟨u1, u2, rfl, h1, h2⟩ := h
    exact ⟨u1, u2 ++ us', by simp, h1, RpL.append h2 h'⟩
theorem RpL.drop {α : Type} {R : α → List Value → Prop} {sz : Nat} (hs : ∀ x us, R x us → us.length = sz) : ∀ (n : Nat) {l : List α} {us : List Value}, RpL R l us → RpL R (l.drop n) (us.drop (n * sz))
  | 0, l, us, h => by simpa using h
  | n + 1, [], us, h => by simp only [RpL] at h; subst h; simp [RpL]
  | n + 1, x :: l, us, h => by
    obtain ⟨u1, u2, rfl, h1, h2⟩ := h
    have e : (u1 ++ u2).drop ((n + 1) * sz) = u2.drop (n * sz) := by
      rw [Nat.add_mul, Nat.one_mul, List.drop_append, List.drop_of_length_le (by rw [hs _ _ h1]; omega), hs _ _ h1]
      simp
    rw [e]
    exact RpL.drop hs n h2
theorem RpL.take {α : Type} {R : α → List Value → Prop} {sz : Nat} (hs : ∀ x us, R x us → us.length = sz) : ∀ (n : Nat) {l : List α} {us : List Value}, RpL R l us → RpL R (l.take n) (us.take (n * sz))
  | 0, l, us, h => by simp [RpL]
  | n + 1, [], us, h => by simp only [RpL] at h; subst h; simp [RpL]
  | n + 1, x :: l, us, h => by
    obtain ⟨u1, u2, rfl, h1, h2⟩ := h
    have e : (u1 ++ u2).take ((n + 1) * sz) = u1 ++ u2.take (n * sz) := by
      rw [Nat.add_mul, Nat.one_mul, List.take_append, List.take_of_length_le (by rw [hs _ _ h1]; omega), hs _ _ h1]
      congr 2; omega
    rw [e]
    exact ⟨u1, _, rfl, h1, RpL.take hs n h2⟩
theorem RpL.get {α : Type} {R : α → List Value → Prop} {sz : Nat} (hs : ∀ x us, R x us → us.length = sz) : ∀ (i : Nat) {l : List α} {us : List Value} {x : α}, RpL R l us → l[i]? = some x → R x ((us.drop (i * sz)).take sz)
  | i, [], us, x, h, hx => by simp at hx
  | 0, y :: l, us, x, h, hx => by
    obtain ⟨u1, u2, rfl, h1, h2⟩ := h
    simp at hx; subst hx
    simpa [hs _ _ h1, List.take_append, List.take_of_length_le (Nat.le_of_eq (hs _ _ h1))] using h1
  | i + 1, y :: l, us, x, h, hx => by
    obtain ⟨u1, u2, rfl, h1, h2⟩ := h
    have e : (u1 ++ u2).drop ((i + 1) * sz) = u2.drop (i * sz) := by
      rw [Nat.add_mul, Nat.one_mul, List.drop_append, List.drop_of_length_le (by rw [hs _ _ h1]; omega), hs _ _ h1]
      simp
    rw [e]
    exact RpL.get hs i h2 (by simpa using hx)
theorem RpL.set {α : Type} {R : α → List Value → Prop} {sz : Nat} (hs : ∀ x us, R x us → us.length = sz) : ∀ (i : Nat) {l : List α} {us vs : List Value} {x : α}, RpL R l us → i < l.length → R x vs → RpL R (l.set i x) (us.take (i * sz) ++ vs ++ us.drop (i * sz + sz))
  | i, [], us, vs, x, h, hi, hx => by simp at hi
  | 0, y :: l, us, vs, x, h, hi, hx => by
    obtain ⟨u1, u2, rfl, h1, h2⟩ := h
    refine ⟨vs, u2, ?_, hx, h2⟩
    simp [List.drop_append, List.drop_of_length_le (Nat.le_of_eq (hs _ _ h1)), hs _ _ h1]
  | i + 1, y :: l, us, vs, x, h, hi, hx => by
    obtain ⟨u1, u2, rfl, h1, h2⟩ := h
    refine ⟨u1, _, ?_, h1, RpL.set hs i h2 (by simpa using hi) hx⟩
    have e1 : (u1 ++ u2).take ((i + 1) * sz) = u1 ++ u2.take (i * sz) := by
      rw [Nat.add_mul, Nat.one_mul, List.take_append, List.take_of_length_le (by rw [hs _ _ h1]; omega), hs _ _ h1]
      congr 2; omega
    have e2 : (u1 ++ u2).drop ((i + 1) * sz + sz) = u2.drop (i * sz + sz) := by
      rw [Nat.add_mul, Nat.one_mul, List.drop_append, List.drop_of_length_le (by rw [hs _ _ h1]; omega), hs _ _ h1, List.nil_append]
      congr 1; omega
    rw [e1, e2]
    simp

theorem Rp.length {c : C} : ∀ {t : Tp} {e : t.T} {us : List Value}, Rp c t e us → us.length = t.size
  | .i _, _, _, h | .bo, _, _, h | .tx, _, _, h | .opt _, _, _, h | .pt, _, _, h => by simp only [Rp] at h; subst h; rfl
  | .sl _, _, _, h => by simp only [Rp] at h; obtain ⟨A, cp, rfl, _⟩ := h; rfl
  | .p a b, e, us, h => by
    simp only [Rp] at h
    obtain ⟨u1, u2, rfl, h1, h2⟩ := h
    simp [Tp.size, Rp.length h1, Rp.length h2]
theorem Rp.one {c : C} : ∀ {t : Tp} {e : t.T} {us : List Value}, Rp c t e us → ∀ u ∈ us, u.oneCell' = true
  | .i _, _, _, h | .bo, _, _, h | .tx, _, _, h | .opt _, _, _, h => by simp only [Rp] at h; subst h; intro u hu; simp at hu; subst hu; rfl
  | .pt, _, _, h => by simp only [Rp] at h; subst h; intro u hu; simp at hu; subst hu; exact ptrU_one _
  | .sl _, _, _, h => by simp only [Rp] at h; obtain ⟨A, cp, rfl, _⟩ := h; intro u hu; simp at hu; subst hu; rfl
  | .p a b, e, us, h => by
    simp only [Rp] at h
    obtain ⟨u1, u2, rfl, h1, h2⟩ := h
    intro u hu
    rcases List.mem_append.1 hu with hu | hu
    · exact Rp.one h1 u hu
    · exact Rp.one h2 u hu
theorem RpL.len {c : C} {t : Tp} {l : List t.T} {us : List Value} (h : RpL (Rp c t) l us) : us.length = l.length * t.size := h.length (fun _ _ h => h.length)
theorem RpL.one {c : C} {t : Tp} : ∀ {l : List t.T} {us : List Value}, RpL (Rp c t) l us → ∀ u ∈ us, u.oneCell' = true
  | [], us, h => by simp only [RpL] at h; subst h; simp
  | x :: l, us, h => by
    obtain ⟨u1, u2, rfl, h1, h2⟩ := h
    intro u hu
    rcases List.mem_append.1 hu with hu | hu
    · exact h1.one u hu
    · exact RpL.one h2 u hu
theorem Rp.flat {c c' : C} : ∀ {t : Tp} {e : t.T} {us : List Value}, t.flat = true → Rp c t e us → Rp c' t e us
  | .i _, _, _, _, h | .bo, _, _, _, h | .tx, _, _, _, h | .pt, _, _, _, h => by simpa only [Rp] using h
  | .sl _, _, _, hf, h => by simp [Tp.flat] at hf
  | .opt _, _, _, hf, h => by simp [Tp.flat] at hf
  | .p a b, e, us, hf, h => by
    simp only [Rp] at h ⊢
    simp only [Tp.flat, Bool.and_eq_true] at hf
    obtain ⟨u1, u2, rfl, h1, h2⟩ := h
    exact ⟨u1, u2, rfl, Rp.flat hf.1 h1, Rp.flat hf.2 h2⟩

/-! ### Nothing that is leant on has turned -/
theorem cell_of_spot {w w' : World} {k o : Nat} {u : Value} (h : spot w' k o = spot w k o) (hc : w.cell? ⟨k, o, none⟩ = some u) : w'.cell? ⟨k, o, none⟩ = some u := by
  unfold World.cell? at hc ⊢
  unfold spot at h
  simp only [Option.isSome_none, Bool.false_eq_true, if_false] at hc ⊢
  cases h1 : w.heap[k]? with
  | none => simp [h1] at hc
  | some ob =>
    rw [h1] at hc h
    cases ob with
    | cells cs e f =>
      simp only at hc h
      cases h2 : w'.heap[k]? with
      | none => rw [h2] at h; simp at h
      | some ob' =>
        rw [h2] at h
        cases ob' with
        | cells cs' e' f' =>
          simp only [Option.some.injEq, Prod.mk.injEq, Obj.cells.injEq] at h
          obtain ⟨⟨h3, _, _⟩, h4⟩ := h
          show cs'[o]? = some u
          have ho : o < cs.size := (Array.getElem?_eq_some_iff.1 hc).1
          have e1 : (cs.extract o (o + 1))[0]? = cs[o]? := by simp [Array.getElem?_extract]; omega
          have e2 : (cs'.extract o (o + 1))[0]? = cs'[o]? := by simp [Array.getElem?_extract]; omega
          rw [← e2, h3, e1]
          exact hc
        | _ => simp at h
    | _ => simp at hc
structure C.Le0 (c c' : C) : Prop where
  F : ∀ k o, c.F k o → c'.F k o
  spot : ∀ k o, c.F k o → spot c'.w k o = spot c.w k o
structure C.Le (c c' : C) : Prop extends C.Le0 c c' where
  g : ∀ x, x < c.nv → c'.g x = c.g x
  nv : c.nv ≤ c'.nv
  r : ∀ x, x < c.nr → c'.r x = c.r x
  nr : c.nr ≤ c'.nr
  ob : ∀ x, x < c.nb → c'.ob x = c.ob x
  nb : c.nb ≤ c'.nb
theorem Seg.le {c c' : C} (h : c.Le0 c') {g o : Nat} {us : List Value} (hs : Seg c g o us) : Seg c' g o us :=
  ⟨fun j hj => h.F _ _ (hs.lent j hj), fun j u hu => cell_of_spot (h.spot _ _ (hs.lent j (List.getElem?_eq_some_iff.1 hu).1)) (hs.cell j u hu), hs.one⟩
theorem Rp.le {c c' : C} (h : c.Le0 c') : ∀ {t : Tp} {e : t.T} {us : List Value}, Rp c t e us → Rp c' t e us
  | .i _, _, _, hr | .bo, _, _, hr | .tx, _, _, hr | .opt _, _, _, hr | .pt, _, _, hr => by simpa only [Rp] using hr
  | .p a b, e, us, hr => by
    simp only [Rp] at hr ⊢
    obtain ⟨u1, u2, rfl, h1, h2⟩ := hr
    exact ⟨u1, u2, rfl, Rp.le h h1, Rp.le h h2⟩
  | .sl t, l, us, hr => by
    simp only [Rp] at hr ⊢
    obtain ⟨A, cp, e, h1, h2, h3⟩ := hr
    refine ⟨A, cp, e, h1, h2, h3.imp id ?_⟩
    rintro ⟨g, o, vs, ea, hs, hl⟩
    exact ⟨g, o, vs, ea, hs.le h, hl.mono fun x us hx => Rp.le h hx⟩
theorem RpL.le {c c' : C} (h : c.Le0 c') {t : Tp} {l : List t.T} {us : List Value} (hr : RpL (Rp c t) l us) : RpL (Rp c' t) l us := hr.mono fun _ _ hx => hx.le h
mutual
theorem RV.le {c c' : C} (h : c.Le c') : ∀ (v : V) (u : Value), RV c v u → RV c' v u
  | .i k n, u, hr | .b x, u, hr | .v v, u, hr | .nx b p r, u, hr | .pt e, u, hr => by simpa only [RV] using hr
  | .x t e, u, hr => by
    simp only [RV] at hr ⊢
    obtain ⟨us, e, hq⟩ := hr
    exact ⟨us, e, hq.le h.toLe0⟩
  | .ro t n l, u, hr => by simp only [RV] at hr ⊢; exact ⟨hr.1, hr.2.le h.toLe0⟩
  | .rp t l i j, u, hr => by
    simp only [RV] at hr ⊢
    obtain ⟨h0, h1, g, o, vs, e, hs, hl⟩ := hr
    exact ⟨h0, h1, g, o, vs, e, hs.le h.toLe0, hl.le h.toLe0⟩
  | .lp x o, u, hr => by simp only [RV] at hr ⊢; exact ⟨Nat.lt_of_lt_of_le hr.1 h.nv, by rw [h.g x hr.1]; exact hr.2⟩
  | .own r, u, hr => by simp only [RV] at hr ⊢; exact ⟨Nat.lt_of_lt_of_le hr.1 h.nr, by rw [h.r r hr.1]; exact hr.2⟩
  | .vw r sz lo n, u, hr => by simp only [RV] at hr ⊢; exact ⟨Nat.lt_of_lt_of_le hr.1 h.nr, by rw [h.r r hr.1]; exact hr.2⟩
  | .op r sz i j, u, hr => by simp only [RV] at hr ⊢; exact ⟨Nat.lt_of_lt_of_le hr.1 h.nr, by rw [h.r r hr.1]; exact hr.2⟩
  | .bk r sz k n, u, hr => by simp only [RV] at hr ⊢; exact ⟨Nat.lt_of_lt_of_le hr.1 h.nr, by rw [h.r r hr.1]; exact hr.2⟩
  | .agg l, u, hr | .tup l, u, hr | .fn _ l, u, hr => by
    simp only [RV] at hr ⊢
    obtain ⟨us, e, hq⟩ := hr
    exact ⟨us, e, RVs.le h l _ hq⟩
  | .obj x, u, hr => by simp only [RV] at hr ⊢; exact ⟨Nat.lt_of_lt_of_le hr.1 h.nb, by rw [h.ob x hr.1]; exact hr.2⟩
  | .junk, u, hr => by simp [RV]
theorem RVs.le {c c' : C} (h : c.Le c') : ∀ (vs : List V) (us : List Value), RVs c vs us → RVs c' vs us
  | [], us, hr => by simpa [RVs] using hr
  | v :: vs, us, hr => by
    simp only [RVs] at hr ⊢
    obtain ⟨u, us', e, h1, h2⟩ := hr
    exact ⟨u, us', e, RV.le h v u h1, RVs.le h vs us' h2⟩
end

/-! ### Lists of values -/
theorem RVs.length {c : C} : ∀ {vs : List V} {us : List Value}, RVs c vs us → us.length = vs.length
  | [], us, h => by simp only [RVs] at h; simp [h]
  | v :: vs, us, h => by
    simp only [RVs] at h
    obtain ⟨u, us', rfl, _, h2⟩ := h
    simp [RVs.length h2]
theorem RVs.cons {c : C} {v : V} {u : Value} {vs : List V} {us : List Value} (h : RV c v u) (hs : RVs c vs us) : RVs c (v :: vs) (u :: us) := by
  simp only [RVs]; exact ⟨u, us, rfl, h, hs⟩
theorem RVs.nil {c : C} : RVs c [] [] := by simp [RVs]
theorem RVs.append {c : C} : ∀ {vs : List V} {us : List Value} {vs' : List V} {us' : List Value}, RVs c vs us → RVs c vs' us' → RVs c (vs ++ vs') (us ++ us')
  | [], us, vs', us', h, h' => by simp only [RVs] at h; subst h; simpa using h'
  | v :: vs, us, vs', us', h, h' => by
    simp only [RVs] at h
    obtain ⟨u, us1, rfl, h1, h2⟩ := h
    exact .cons h1 (.append h2 h')
theorem RVs.drop {c : C} : ∀ (n : Nat) {vs : List V} {us : List Value}, RVs c vs us → RVs c (vs.drop n) (us.drop n)
  | 0, vs, us, h => by simpa using h
  | n + 1, [], us, h => by simp only [RVs] at h; subst h; simp [RVs]
  | n + 1, v :: vs, us, h => by
    simp only [RVs] at h
    obtain ⟨u, us1, rfl, h1, h2⟩ := h
    simpa using RVs.drop n h2
theorem RVs.take {c : C} : ∀ (n : Nat) {vs : List V} {us : List Value}, RVs c vs us → RVs c (vs.take n) (us.take n)
  | 0, vs, us, h => by simp [RVs]
  | n + 1, [], us, h => by simp only [RVs] at h; subst h; simp [RVs]
  | n + 1, v :: vs, us, h => by
    simp only [RVs] at h
    obtain ⟨u, us1, rfl, h1, h2⟩ := h
    simpa using RVs.cons h1 (RVs.take n h2)
theorem RVs.get {c : C} : ∀ {vs : List V} {us : List Value} (i : Nat) {v : V}, RVs c vs us → vs[i]? = some v → ∃ u, us[i]? = some u ∧ RV c v u
  | [], us, i, v, h, hv => by simp at hv
  | x :: vs, us, 0, v, h, hv => by
    simp only [RVs] at h
    obtain ⟨u, us1, rfl, h1, h2⟩ := h
    simp at hv; subst hv
    exact ⟨u, rfl, h1⟩
  | x :: vs, us, i + 1, v, h, hv => by
    simp only [RVs] at h
    obtain ⟨u, us1, rfl, h1, h2⟩ := h
    simpa using RVs.get i h2 (by simpa using hv)
theorem RVs.set {c : C} : ∀ {vs : List V} {us : List Value} (i : Nat) {v : V} {u : Value}, RVs c vs us → RV c v u → RVs c (vs.set i v) (us.set i u)
  | [], us, i, v, u, h, hv => by simp only [RVs] at h; subst h; simp [RVs]
  | x :: vs, us, 0, v, u, h, hv => by
    simp only [RVs] at h
    obtain ⟨u0, us1, rfl, h1, h2⟩ := h
    simpa using RVs.cons hv h2
  | x :: vs, us, i + 1, v, u, h, hv => by
    simp only [RVs] at h
    obtain ⟨u0, us1, rfl, h1, h2⟩ := h
    simpa using RVs.cons h1 (RVs.set i h2 hv)
theorem RVs.getD {c : C} {vs : List V} {us : List Value} (i : Nat) (d : Value) (h : RVs c vs us) : RV c (vs.getD i .junk) (us.getD i d) := by
  cases hv : vs[i]? with
  | none => simp [List.getD, hv, RV]
  | some v =>
    obtain ⟨u, hu, hr⟩ := h.get i hv
    simpa [List.getD, hv, hu] using hr

/-! ### Parts of data -/
theorem Tp.cast_rfl {a : Tp} (h : a.eq a = true) (e : a.T) : Tp.cast h e = e := rfl
theorem Rp.cast {c : C} {a b : Tp} (h : a.eq b = true) {e : a.T} {us : List Value} (hr : Rp c a e us) : Rp c b (Tp.cast h e) us := by
  obtain rfl := Tp.of_eq h
  exact hr
theorem RpL.cast {c : C} {a b : Tp} (h : a.eq b = true) {e : List a.T} {us : List Value} (hr : RpL (Rp c a) e us) : RpL (Rp c b) (Tp.castL h e) us := by
  obtain rfl := Tp.of_eq h
  exact hr
theorem Tp.castL_length {a b : Tp} (h : a.eq b = true) (e : List a.T) : (Tp.castL h e).length = e.length := by
  obtain rfl := Tp.of_eq h
  rfl
theorem take_all {us : List Value} {n : Nat} (h : us.length = n) : (us.drop 0).take n = us := by simp [← h]
theorem Tp.sub_leaf {c : C} {t τ : Tp} {e : τ.T} {us : List Value} {j : Nat} {d : t.T} (hr : Rp c τ e us) (h : τ.eq t && j == 0) (hd : Tp.cast (Bool.and_eq_true_iff.1 h).1 e = d) : Rp c t d ((us.drop j).take t.size) ∧ j + t.size ≤ τ.size := by
  simp only [Bool.and_eq_true, beq_iff_eq] at h
  obtain ⟨h1, rfl⟩ := h
  obtain rfl := Tp.of_eq h1
  subst hd
  rw [take_all hr.length]
  exact ⟨hr, by omega⟩
theorem Tp.sub_sound {c : C} {t : Tp} : ∀ {τ : Tp} {e : τ.T} {us : List Value} {j : Nat} {d : t.T}, Rp c τ e us → Tp.sub t τ e j = some d → Rp c t d ((us.drop j).take t.size) ∧ j + t.size ≤ τ.size
  | .i k, e, us, j, d, hr, h | .bo, e, us, j, d, hr, h | .tx, e, us, j, d, hr, h | .sl q, e, us, j, d, hr, h | .pt, e, us, j, d, hr, h => by
    simp only [Tp.sub] at h
    split at h
    · rename_i hc; exact Tp.sub_leaf hr hc (Option.some.inj h)
    · cases h
  | .p a b, e, us, j, d, hr, h => by
    simp only [Tp.sub] at h
    split at h
    · rename_i hc; exact Tp.sub_leaf hr hc (Option.some.inj h)
    · simp only [Rp] at hr
      obtain ⟨u1, u2, rfl, h1, h2⟩ := hr
      have l1 := h1.length
      have l2 := h2.length
      split at h
      · rename_i hj
        obtain ⟨q1, q2⟩ := Tp.sub_sound h1 h
        refine ⟨?_, by simp only [Tp.size]; omega⟩
        rw [List.drop_append_of_le_length (by omega), List.take_append_of_le_length (by simp; omega)]
        exact q1
      · rename_i hj
        obtain ⟨q1, q2⟩ := Tp.sub_sound h2 h
        refine ⟨?_, by simp only [Tp.size]; omega⟩
        rw [List.drop_append, List.drop_of_length_le (by omega), l1]
        simpa using q1
theorem Tp.upd_leaf {c : C} {t τ : Tp} {v : t.T} {us vs : List Value} {j : Nat} {e' : τ.T} (hu : us.length = τ.size) (hv : Rp c t v vs) (h : τ.eq t && j == 0) (hd : Tp.cast (Tp.eq_comm (Bool.and_eq_true_iff.1 h).1) v = e') : Rp c τ e' (us.take j ++ vs ++ us.drop (j + t.size)) ∧ j + t.size ≤ τ.size := by
  simp only [Bool.and_eq_true, beq_iff_eq] at h
  obtain ⟨h1, rfl⟩ := h
  obtain rfl := Tp.of_eq h1
  subst hd
  rw [List.drop_of_length_le (by omega)]
  simp only [List.take_zero, List.nil_append, List.append_nil]
  exact ⟨hv, by omega⟩
theorem Tp.upd_sound {c : C} {t : Tp} {v : t.T} {vs : List Value} (hv : Rp c t v vs) : ∀ {τ : Tp} {e : τ.T} {us : List Value} {j : Nat} {e' : τ.T}, Rp c τ e us → Tp.upd t v τ e j = some e' → Rp c τ e' (us.take j ++ vs ++ us.drop (j + t.size)) ∧ j + t.size ≤ τ.size
  | .i k, e, us, j, d, hr, h | .bo, e, us, j, d, hr, h | .tx, e, us, j, d, hr, h | .sl q, e, us, j, d, hr, h | .pt, e, us, j, d, hr, h => by
    simp only [Tp.upd] at h
    split at h
    · rename_i hc; exact Tp.upd_leaf hr.length hv hc (Option.some.inj h)
    · cases h
  | .p a b, e, us, j, d, hr, h => by
    simp only [Tp.upd] at h
    split at h
    · rename_i hc; exact Tp.upd_leaf hr.length hv hc (Option.some.inj h)
    · simp only [Rp] at hr
      obtain ⟨u1, u2, rfl, h1, h2⟩ := hr
      have l1 := h1.length
      have l2 := h2.length
      split at h
      · rename_i hj
        obtain ⟨x, hx, rfl⟩ := Option.map_eq_some_iff.1 h
        obtain ⟨q1, q2⟩ := Tp.upd_sound hv h1 hx
        refine ⟨?_, by simp only [Tp.size]; omega⟩
        simp only [Rp]
        refine ⟨_, u2, ?_, q1, h2⟩
        rw [List.take_append, List.drop_append, show j - u1.length = 0 from by omega, show j + t.size - u1.length = 0 from by omega]
        simp
      · rename_i hj
        obtain ⟨x, hx, rfl⟩ := Option.map_eq_some_iff.1 h
        obtain ⟨q1, q2⟩ := Tp.upd_sound hv h2 hx
        refine ⟨?_, by simp only [Tp.size]; omega⟩
        simp only [Rp]
        refine ⟨u1, _, ?_, h1, q1⟩
        rw [List.take_append, List.drop_append, List.take_of_length_le (by omega), List.drop_of_length_le (by omega), l1, show j + t.size - a.size = j - a.size + t.size from by omega]
        simp
theorem Tp.cells_sound {c : C} : ∀ {t : Tp} {e : t.T} {us : List Value}, Rp c t e us → RVs c (t.cells e) us
  | .i _, _, _, h | .bo, _, _, h | .tx, _, _, h | .opt _, _, _, h | .pt, _, _, h => by simp only [Rp] at h; subst h; exact .cons (by simp only [RV, I.val, B.val]) .nil
  | .sl t, l, us, h => by
    have h0 := h
    simp only [Rp] at h
    obtain ⟨A, cp, rfl, _⟩ := h
    exact .cons (by simp only [RV, I.val]; exact ⟨trivial, h0⟩) .nil
  | .p a b, e, us, h => by
    simp only [Rp] at h
    obtain ⟨u1, u2, rfl, h1, h2⟩ := h
    exact (Tp.cells_sound h1).append (Tp.cells_sound h2)
theorem ix_get {t : Tp} {l : List t.T} {i : Int} (h0 : 0 ≤ i) (h1 : i < l.length) : l[i.toNat]? = some (t.ix l i) := by
  unfold Tp.ix Fx.ix
  rw [List.getD_eq_getElem?_getD, List.getElem?_eq_getElem (by omega)]
  rfl
end Go.Fx
