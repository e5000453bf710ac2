/- Contracts: what a function that writes to nothing of its caller's gives back. -/
import Derived.Test.YtkhbodngiodklaaDyS
set_option linter.all false
namespace Go.Dx
open Go Go.RowKit

/-- Nothing that was there has turned. -/
structure Same (w w' : World) : Prop where
  os : w'.os = w.os
  tape : w'.tape = w.tape
  output : w'.output = w.output
  size : w.heap.size ≤ w'.heap.size
  block : ∀ k, k < w.heap.size → w'.heap[k]? = w.heap[k]?

/-- The arguments' side: what may be read. -/
def argC (w : World) (F : Nat → Prop) : C := ⟨w, F, fun _ => 0, fun _ => undef, 0, 0⟩
/-- The results' side: new rows, by their numbers. -/
def resC (w : World) (ρ : Nat → Value) (n : Nat) : C := ⟨w, fun _ => False, fun _ => 0, ρ, 0, n⟩
structure NewRow (w w' : World) (ρ : Nat → Value) (n r : Nat) (b : Row) : Prop where
  live : b.live = true
  at_ : ∃ us : List Value, w'.ownsRow w.heap.size b.e b.sz (ρ r) b.n.val.toNat us ∧ RCs (resC w' ρ n) (b.ct.cells b.n.val.toNat b.sz) us ∧ ∀ u ∈ us, u.oneCell' = true
  nonneg : 0 ≤ b.n.val
/-- What a call gives back: a value, and new rows. -/
def Back (w : World) (Q : V → List Row → Prop) (e : Ending) (w' : World) : Prop :=
  ∃ u, e = .returned u ∧ Same w w' ∧ ∃ (ρ : Nat → Value) (ret : V) (rows : List Row), Q ret rows ∧ RV (resC w' ρ rows.length) ret u ∧ (∀ r b, rows[r]? = some b → NewRow w w' ρ rows.length r b) ∧
    ∀ r r', r < rows.length → r' < rows.length → r ≠ r' → ∀ k, (ρ r).ownBlock = some k → (ρ r').ownBlock ≠ some k
/-- The function's contract. -/
def Ctr (P : Program) (g : FuncId) (args : List V) (Q : V → List Row → Prop) : Prop :=
  ∀ (w : World) (F : Nat → Prop) (us : List Value), (∀ b, F b → b < w.heap.size) → RCs (argC w F) args us → Calls P g us.toArray w (Back w Q)

mutual
/-- The rows' numbers in the caller. -/
def shift (n : Nat) : V → V
  | .own r => .own (n + r)
  | .op r sz i j => .op (n + r) sz i j
  | .vw r sz lo m => .vw (n + r) sz lo m
  | .fn f l => .fn f (shifts n l)
  | .agg l => .agg (shifts n l)
  | .tup l => .tup (shifts n l)
  | .i k m => .i k m
  | .b x => .b x
  | .v v => .v v
  | .lp x o => .lp x o
  | .ro m sz cs => .ro m sz cs
  | .rp m sz cs i j => .rp m sz cs i j
  | .junk => .junk
def shifts (n : Nat) : List V → List V
  | [] => []
  | v :: vs => shift n v :: shifts n vs
end

theorem roR.ofRes {w' : World} {ρ : Nat → Value} {n : Nat} {c' : C} {rel rel' : V → Value → Prop} {m : I} {sz : Nat} {cs : List Col} {u : Value} (h : roR (resC w' ρ n) rel m sz cs u) : roR c' rel' m sz cs u := by
  obtain ⟨A, cp, e, h0, h1, h2, h3⟩ := h
  refine ⟨A, cp, e, h0, h1, h2, fun i j hi hj => ?_⟩
  obtain ⟨a, ea, hF, _⟩ := h3 i j hi hj
  exact absurd hF (by simp [resC])
mutual
theorem RC.ofRes {w' : World} {ρ : Nat → Value} {n : Nat} {c' : C} : ∀ (v : V) (u : Value), RC (resC w' ρ n) v u → RC c' v u
  | .i k m, u, h => by simpa only [RC] using h
  | .b x, u, h => by simpa only [RC] using h
  | .v x, u, h => by simpa only [RC] using h
  | .lp x o, u, h => by simp [RC, resC] at h
  | .ro m sz cs, u, h => by simp only [RC] at h ⊢; exact roR.ofRes h
  | .rp m sz cs i j, u, h => by
    simp only [RC] at h ⊢
    obtain ⟨a, e, h0, h1, hF, _⟩ := h
    exact absurd hF (by simp [resC])
  | .agg l, u, h | .tup l, u, h | .fn _ l, u, h => by simp only [RC] at h ⊢; obtain ⟨us, e, hq⟩ := h; exact ⟨us, e, RCs.ofRes l _ hq⟩
  | .own r, u, h => by simp [RC] at h
  | .vw _ _ _ _, u, h => by simp [RC] at h
  | .op r sz i j, u, h => by simp [RC] at h
  | .junk, u, h => by simp [RC]
theorem RCs.ofRes {w' : World} {ρ : Nat → Value} {n : Nat} {c' : C} : ∀ (vs : List V) (us : List Value), RCs (resC w' ρ n) vs us → RCs c' vs us
  | [], us, h => by simpa [RCs] using h
  | v :: vs, us, h => by simp only [RCs] at h ⊢; obtain ⟨u, us', e, h1, h2⟩ := h; exact ⟨u, us', e, RC.ofRes v u h1, RCs.ofRes vs us' h2⟩
end
mutual
theorem RV.ofRes {w' : World} {ρ : Nat → Value} {n m : Nat} {c' : C} (hr : ∀ x, x < n → c'.r (m + x) = ρ x) (hn : m + n ≤ c'.nr) : ∀ (v : V) (u : Value), RV (resC w' ρ n) v u → RV c' (Dx.shift m v) u
  | .i k q, u, h => by simp only [Dx.shift, RV] at h ⊢; exact RC.ofRes _ _ h
  | .b x, u, h => by simp only [Dx.shift, RV] at h ⊢; exact RC.ofRes _ _ h
  | .v x, u, h => by simp only [Dx.shift, RV] at h ⊢; exact RC.ofRes _ _ h
  | .lp x o, u, h => by simp only [Dx.shift, RV] at h ⊢; exact RC.ofRes _ _ h
  | .ro q sz cs, u, h => by simp only [Dx.shift, RV] at h ⊢; exact RC.ofRes _ _ h
  | .rp q sz cs i j, u, h => by simp only [Dx.shift, RV] at h ⊢; exact RC.ofRes _ _ h
  | .own r, u, h => by
    simp only [Dx.shift, RV, resC] at h ⊢
    rw [hr r h.1]
    exact ⟨by omega, h.2⟩
  | .vw r sz lo q, u, h => by
    simp only [Dx.shift, RV, resC] at h ⊢
    rw [hr r h.1]
    exact ⟨by omega, h.2⟩
  | .op r sz i j, u, h => by
    simp only [Dx.shift, RV, resC] at h ⊢
    rw [hr r h.1]
    exact ⟨by omega, h.2⟩
  | .agg l, u, h | .tup l, u, h | .fn _ l, u, h => by simp only [Dx.shift, RV] at h ⊢; obtain ⟨us, e, hq⟩ := h; exact ⟨us, e, RVs.ofRes hr hn l _ hq⟩
  | .junk, u, h => by simp [Dx.shift, RV]
theorem RVs.ofRes {w' : World} {ρ : Nat → Value} {n m : Nat} {c' : C} (hr : ∀ x, x < n → c'.r (m + x) = ρ x) (hn : m + n ≤ c'.nr) : ∀ (vs : List V) (us : List Value), RVs (resC w' ρ n) vs us → RVs c' (Dx.shifts m vs) us
  | [], us, h => by simpa [Dx.shifts, RVs] using h
  | v :: vs, us, h => by simp only [Dx.shifts, RVs] at h ⊢; obtain ⟨u, us', e, h1, h2⟩ := h; exact ⟨u, us', e, RV.ofRes hr hn v u h1, RVs.ofRes hr hn vs us' h2⟩
end

/-! ### Values by their shapes -/
inductive U where
  | i (n : Int) | b (x : Bool) | s (x : ByteArray) | ci (f : Nat → Int) | cb (f : Nat → Bool) | cs (f : Nat → ByteArray) | di (f : Nat → Nat → Int) | db (f : Nat → Nat → Bool) | ds (f : Nat → Nat → ByteArray)
inductive Kn where
  | i | b | s | ci | cb | cs | di | db | ds
def U.kn : U → Kn
  | .i _ => .i | .b _ => .b | .s _ => .s | .ci _ => .ci | .cb _ => .cb | .cs _ => .cs | .di _ => .di | .db _ => .db | .ds _ => .ds
def allU : List Kn → (List U → Prop) → Prop
  | [], p => p []
  | .i :: ks, p => ∀ x, allU ks fun l => p (.i x :: l)
  | .b :: ks, p => ∀ x, allU ks fun l => p (.b x :: l)
  | .s :: ks, p => ∀ x, allU ks fun l => p (.s x :: l)
  | .ci :: ks, p => ∀ x, allU ks fun l => p (.ci x :: l)
  | .cb :: ks, p => ∀ x, allU ks fun l => p (.cb x :: l)
  | .cs :: ks, p => ∀ x, allU ks fun l => p (.cs x :: l)
  | .di :: ks, p => ∀ x, allU ks fun l => p (.di x :: l)
  | .db :: ks, p => ∀ x, allU ks fun l => p (.db x :: l)
  | .ds :: ks, p => ∀ x, allU ks fun l => p (.ds x :: l)
def exU : List Kn → (List U → Prop) → Prop
  | [], p => p []
  | .i :: ks, p => ∃ x, exU ks fun l => p (.i x :: l)
  | .b :: ks, p => ∃ x, exU ks fun l => p (.b x :: l)
  | .s :: ks, p => ∃ x, exU ks fun l => p (.s x :: l)
  | .ci :: ks, p => ∃ x, exU ks fun l => p (.ci x :: l)
  | .cb :: ks, p => ∃ x, exU ks fun l => p (.cb x :: l)
  | .cs :: ks, p => ∃ x, exU ks fun l => p (.cs x :: l)
  | .di :: ks, p => ∃ x, exU ks fun l => p (.di x :: l)
  | .db :: ks, p => ∃ x, exU ks fun l => p (.db x :: l)
  | .ds :: ks, p => ∃ x, exU ks fun l => p (.ds x :: l)
theorem allU_spec : ∀ {ks : List Kn} {p : List U → Prop}, allU ks p → ∀ l, l.map U.kn = ks → p l
  | [], p, h, l, e => by
    have : l = [] := by simpa using e
    subst this; exact h
  | k :: ks, p, h, [], e => by simp at e
  | k :: ks, p, h, u :: l, e => by
    simp only [List.map_cons, List.cons.injEq] at e
    obtain ⟨rfl, e⟩ := e
    cases u <;> exact allU_spec (p := fun l => p (_ :: l)) (h _) l e
theorem exU_spec : ∀ {ks : List Kn} {p : List U → Prop}, exU ks p → ∃ l, l.map U.kn = ks ∧ p l
  | [], p, h => ⟨[], rfl, h⟩
  | k :: ks, p, h => by
    cases k <;> (obtain ⟨x, h⟩ := h; obtain ⟨l, e, h⟩ := exU_spec (p := fun l => p (_ :: l)) h; exact ⟨_ :: l, by simp [U.kn, e], h⟩)

inductive FSh where
  | i (k : IntKind) | b | s
inductive CSh where
  | f (c : FSh) | sl (l : List FSh)
inductive Sh where
  | i (k : IntKind) | b | s | ro (cols : List CSh) | agg (l : List Sh) | is (v : V)
def FSh.kn : FSh → Kn
  | .i _ => .ci | .b => .cb | .s => .cs
def FSh.kn2 : FSh → Kn
  | .i _ => .di | .b => .db | .s => .ds
def CSh.kn : CSh → List Kn
  | .f c => [c.kn]
  | .sl l => .ci :: l.map FSh.kn2
def CSh.kns : List CSh → List Kn
  | [] => []
  | c :: cs => c.kn ++ CSh.kns cs
mutual
def Sh.kn : Sh → List Kn
  | .i _ => [.i] | .b => [.b] | .s => [.s]
  | .ro cols => .i :: CSh.kns cols
  | .agg l => Sh.kns l
  | .is _ => []
def Sh.kns : List Sh → List Kn
  | [] => []
  | a :: l => a.kn ++ Sh.kns l
end
/-- A column, out of fresh names. -/
def FSh.mk : FSh → List U → FCol × List U
  | .i k, .ci f :: l => (.i k f, l)
  | .b, .cb f :: l => (.b f, l)
  | .s, .cs f :: l => (.s f, l)
  | _, l => (.b (fun _ => false), l)
def FSh.mk2 : FSh → List U → FCol2 × List U
  | .i k, .di f :: l => (.i k f, l)
  | .b, .db f :: l => (.b f, l)
  | .s, .ds f :: l => (.s f, l)
  | _, l => (.b (fun _ _ => false), l)
def FSh.mks2 : List FSh → List U → List FCol2 × List U
  | [], l => ([], l)
  | a :: as, l => ((a.mk2 l).1 :: (FSh.mks2 as (a.mk2 l).2).1, (FSh.mks2 as (a.mk2 l).2).2)
def CSh.mk : CSh → List U → Col × List U
  | .f c, l => (.f (c.mk l).1, (c.mk l).2)
  | .sl fs, .ci n :: l => (.sl n (FSh.mks2 fs l).1, (FSh.mks2 fs l).2)
  | _, l => (.j, l)
def CSh.mks : List CSh → List U → List Col × List U
  | [], l => ([], l)
  | a :: as, l => ((a.mk l).1 :: (CSh.mks as (a.mk l).2).1, (CSh.mks as (a.mk l).2).2)
mutual
def Sh.mk : Sh → List U → V × List U
  | .i k, .i n :: l => (.i k (.s n), l)
  | .b, .b x :: l => (.b (.s x), l)
  | .s, .s x :: l => (.v (.string x), l)
  | .ro cols, .i n :: l => (.ro (.s n) cols.length (CSh.mks cols l).1, (CSh.mks cols l).2)
  | .agg shs, l => (.agg (Sh.mks shs l).1, (Sh.mks shs l).2)
  | .is v, l => (v, l)
  | _, l => (.junk, l)
def Sh.mks : List Sh → List U → List V × List U
  | [], l => ([], l)
  | a :: as, l => ((a.mk l).1 :: (Sh.mks as (a.mk l).2).1, (Sh.mks as (a.mk l).2).2)
end
/-- What stands there, read by its shape. -/
def FSh.rd (z : Bool) : FSh → Col → Option (List U)
  | .i k, .f (.i k' f) => if k == k' then some [.ci f] else none
  | .b, .f (.b f) => some [.cb f]
  | .s, .f (.s f) => some [.cs f]
  | .i _, _ => if z then some [.ci fun _ => 0] else none
  | .b, _ => if z then some [.cb fun _ => false] else none
  | .s, _ => if z then some [.cs fun _ => ByteArray.empty] else none
def FSh.rds2 : List FSh → List FCol2 → Option (List U)
  | [], [] => some []
  | .i k :: fs, .i k' f :: cs => if k == k' then (FSh.rds2 fs cs).map (.di f :: ·) else none
  | .b :: fs, .b f :: cs => (FSh.rds2 fs cs).map (.db f :: ·)
  | .s :: fs, .s f :: cs => (FSh.rds2 fs cs).map (.ds f :: ·)
  | _, _ => none
def CSh.rd (z : Bool) : CSh → Col → Option (List U)
  | .f c, d => c.rd z d
  | .sl fs, .sl n cs => (FSh.rds2 fs cs).map (.ci n :: ·)
  | _, _ => none
def CSh.rds (z : Bool) : List CSh → List Col → Option (List U)
  | [], _ => some []
  | a :: as, ds => match a.rd z (ds.headD .j), CSh.rds z as ds.tail with
    | some us, some vs => some (us ++ vs)
    | _, _ => none
def zeroI : I → Bool
  | .l n => n == 0
  | .s _ => false
def sameV : V → V → Bool
  | .v (.slice none 0 0), .v (.slice none 0 0) => true
  | .fn f [], .fn g [] => f == g
  | .lp x o, .lp y q => x == y && o == q
  | _, _ => false
mutual
def Sh.rd (s : S) : Sh → V → Option (List U)
  | .i k, v => match v with | .i k' n => if k == k' then some [.i n.val] else none | _ => none
  | .b, v => match v with | .b x => some [.b x.val] | _ => none
  | .s, v => match v with | .v (.string x) => some [.s x] | _ => none
  | .ro cols, v => match tailOf s cols.length v with
    | some (n, ct) => (CSh.rds (zeroI n) cols (ct.cols' cols.length)).map (.i n.val :: ·)
    | none => none
  | .agg shs, v => match v with | .agg l => Sh.rds s shs l | _ => none
  | .is w, v => if sameV w v then some [] else none
def Sh.rds (s : S) : List Sh → List V → Option (List U)
  | [], [] => some []
  | a :: as, v :: vs => match a.rd s v, Sh.rds s as vs with
    | some us, some ws => some (us ++ ws)
    | _, _ => none
  | _, _ => none
end
end Go.Dx
