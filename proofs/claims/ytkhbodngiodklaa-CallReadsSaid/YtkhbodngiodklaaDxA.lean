/- Known values and names for what is not known, with the blocks that a call itself has made; what they stand for. No program in sight. -/
import Derived.WalkKit
set_option linter.all false
namespace Go.Dx
open Go Go.RowKit

/-! ### Values -/
inductive I where
  | l (n : Int)
  | s (n : Int)
def I.val : I → Int
  | .l n => n
  | .s n => n
inductive B where
  | l (b : Bool)
  | s (b : Bool)
def B.val : B → Bool
  | .l b => b
  | .s b => b
inductive FCol where
  | i (k : IntKind) (f : Nat → Int)
  | b (f : Nat → Bool)
  | s (f : Nat → ByteArray)
inductive FCol2 where
  | i (k : IntKind) (f : Nat → Nat → Int)
  | b (f : Nat → Nat → Bool)
  | s (f : Nat → Nat → ByteArray)
/-- One cell of each element of a row: by the element's number. -/
inductive Col where
  | f (c : FCol)
  | sl (n : Nat → Int) (cs : List FCol2)
  | j

inductive V where
  | i (k : IntKind) (n : I)
  | b (x : B)
  | v (v : Value)
  | lp (x o : Nat)
  | ro (n : I) (sz : Nat) (cs : List Col)
  | rp (n : I) (sz : Nat) (cs : List Col) (i : I) (j : Nat)
  | own (r : Nat)
  | vw (r sz : Nat) (lo n : I)
  | op (r sz : Nat) (i : I) (j : Nat)
  | fn (f : FuncId) (caps : List V)
  | agg (cells : List V)
  | tup (vs : List V)
  | junk

def FCol.at : FCol → Nat → V
  | .i k f, n => .i k (.s (f n))
  | .b f, n => .b (.s (f n))
  | .s f, n => .v (.string (f n))
def FCol2.at : FCol2 → Nat → FCol
  | .i k f, n => .i k (f n)
  | .b f, n => .b (f n)
  | .s f, n => .s (f n)
def Col.at : Col → Nat → V
  | .f c, n => c.at n
  | .sl g cs, n => .ro (.s (g n)) cs.length (cs.map fun c => .f (c.at n))
  | .j, _ => .junk
def getC (cs : List Col) (i j : Nat) : V := (cs.getD j .j).at i

structure C where
  w : World
  F : Nat → Prop
  g : Nat → Nat
  r : Nat → Value
  nv : Nat
  nr : Nat

/-- Numbers, bools, texts. -/
def RFl : V → Value → Prop
  | .i k n, u => u = .int k n.val
  | .b x, u => u = .bool x.val
  | .v v, u => u = v
  | .junk, _ => True
  | _, _ => False
def roR (c : C) (rel : V → Value → Prop) (n : I) (sz : Nat) (cs : List Col) (u : Value) : Prop :=
  ∃ A cp, u = .slice A n.val.toNat cp ∧ 0 ≤ n.val ∧ n.val.toNat ≤ cp ∧ cp ≤ maxLen ∧
    ∀ i j, i < n.val.toNat → j < sz → ∃ a, A = some a ∧ c.F a.block ∧ ∃ u', c.w.cell? (a.add (i * sz + j)) = some u' ∧ u'.oneCell' = true ∧ rel (getC cs i j) u'
def RCell (c : C) : V → Value → Prop
  | .ro n sz cs, u => roR c RFl n sz cs u
  | v, u => RFl v u
mutual
/-- What a value that leads to no row of the call's own stands for. -/
def RC (c : C) : V → Value → Prop
  | .i k n, u => u = .int k n.val
  | .b x, u => u = .bool x.val
  | .v v, u => u = v
  | .lp x o, u => x < c.nv ∧ u = .pointer (some ⟨c.g x, o, none⟩)
  | .ro n sz cs, u => roR c (RCell c) n sz cs u
  | .rp n sz cs i j, u => ∃ a : Addr, u = .pointer (some (a.add (i.val.toNat * sz + j))) ∧ 0 ≤ i.val ∧ i.val < n.val ∧ c.F a.block ∧
      ∀ i' j', i' < n.val.toNat → j' < sz → ∃ u', c.w.cell? (a.add (i' * sz + j')) = some u' ∧ u'.oneCell' = true ∧ RCell c (getC cs i' j') u'
  | .fn f l, u => ∃ us, u = .func (.func f) #[] us ∧ RCs c l us.toList
  | .agg l, u => ∃ us, u = .agg us ∧ RCs c l us.toList
  | .tup l, u => ∃ us, u = .tuple us ∧ RCs c l us.toList
  | .own _, _ => False
  | .vw _ _ _ _, _ => False
  | .op _ _ _ _, _ => False
  | .junk, _ => True
def RCs (c : C) : List V → List Value → Prop
  | [], us => us = []
  | v :: vs, us => ∃ u us', us = u :: us' ∧ RC c v u ∧ RCs c vs us'
end

mutual
def RV (c : C) : V → Value → Prop
  | .own r, u => r < c.nr ∧ u = c.r r ∧ (c.r r).oneCell' = true
  | .vw r sz lo n, u => r < c.nr ∧ ∃ A m cap A' cp, c.r r = .slice A m cap ∧ (m = 0 ∨ ∃ g, A = some ⟨g, 0, none⟩) ∧ 0 ≤ lo.val ∧ 0 ≤ n.val ∧ lo.val.toNat + n.val.toNat ≤ m ∧ u = .slice A' n.val.toNat cp ∧ n.val.toNat ≤ cp ∧ cp ≤ maxLen ∧ (0 < n.val → A' = A.map (·.add (lo.val.toNat * sz)))
  | .op r sz i j, u => r < c.nr ∧ ∃ g n cap, c.r r = .slice (some ⟨g, 0, none⟩) n cap ∧ 0 ≤ i.val ∧ i.val.toNat < n ∧ u = .pointer (some ⟨g, i.val.toNat * sz + j, none⟩)
  | .agg l, u => ∃ us, u = .agg us ∧ RVs c l us.toList
  | .tup l, u => ∃ us, u = .tuple us ∧ RVs c l us.toList
  | .fn f l, u => ∃ us, u = .func (.func f) #[] us ∧ RVs c l us.toList
  | .i k n, u => RC c (.i k n) u
  | .b x, u => RC c (.b x) u
  | .v v, u => RC c (.v v) u
  | .lp x o, u => RC c (.lp x o) u
  | .ro n sz cs, u => RC c (.ro n sz cs) u
  | .rp n sz cs i j, u => RC c (.rp n sz cs i j) u
  | .junk, u => True
def RVs (c : C) : List V → List Value → Prop
  | [], us => us = []
  | v :: vs, us => ∃ u us', us = u :: us' ∧ RV c v u ∧ RVs c vs us'
end

theorem roR.mono {c c' : C} {rel rel' : V → Value → Prop} {n : I} {sz : Nat} {cs : List Col} {u : Value} (hF : ∀ b, c.F b → c'.F b) (hc : ∀ a : Addr, c.F a.block → c'.w.cell? a = c.w.cell? a) (hr : ∀ v u, rel v u → rel' v u) (h : roR c rel n sz cs u) : roR c' rel' n sz cs u := by
  obtain ⟨A, cp, e, h0, h1, h2, h3⟩ := h
  refine ⟨A, cp, e, h0, h1, h2, fun i j hi hj => ?_⟩
  obtain ⟨a, ea, hFa, u', hu, ho, hq⟩ := h3 i j hi hj
  have hb : (a.add (i * sz + j)).block = a.block := by unfold Addr.add; split <;> rfl
  exact ⟨a, ea, hF _ hFa, u', by rw [hc _ (by rw [hb]; exact hFa)]; exact hu, ho, hr _ _ hq⟩

/-- Nothing that is leant on has turned. -/
structure C.Le0 (c c' : C) : Prop where
  F : ∀ b, c.F b → c'.F b
  cell : ∀ a : Addr, c.F a.block → c'.w.cell? a = c.w.cell? a
  g : ∀ x, x < c.nv → c'.g x = c.g x
  nv : c.nv ≤ c'.nv
structure C.Le (c c' : C) : Prop extends C.Le0 c c' where
  r : ∀ x, x < c.nr → c'.r x = c.r x
  nr : c.nr ≤ c'.nr

theorem add_blk (a : Addr) (n : Nat) : (a.add n).block = a.block := by unfold Addr.add; split <;> rfl
theorem RFl.cell {c : C} : ∀ {v : V} {u : Value}, RFl v u → RCell c v u
  | .i _ _, _, h | .b _, _, h | .v _, _, h | .junk, _, h => h
  | .ro _ _ _, _, h | .lp _ _, _, h | .rp _ _ _ _ _, _, h | .own _, _, h | .vw _ _ _ _, _, h | .op _ _ _ _, _, h | .fn _ _, _, h | .agg _, _, h | .tup _, _, h => by simp [RFl] at h
theorem RCell.rc {c : C} : ∀ {v : V} {u : Value}, RCell c v u → RC c v u
  | .i _ _, _, h | .b _, _, h | .v _, _, h => by simpa only [RC, RCell, RFl] using h
  | .junk, _, _ => by simp only [RC]
  | .ro _ _ _, _, h => by simp only [RC]; exact roR.mono (fun _ h => h) (fun _ _ => rfl) (fun _ _ => RFl.cell) h
  | .lp _ _, _, h | .rp _ _ _ _ _, _, h | .own _, _, h | .vw _ _ _ _, _, h | .op _ _ _ _, _, h | .fn _ _, _, h | .agg _, _, h | .tup _, _, h => by simp [RCell, RFl] at h
theorem RFl.rc {c : C} {v : V} {u : Value} (h : RFl v u) : RC c v u := h.cell.rc
theorem RCell.le {c c' : C} (h : c.Le0 c') : ∀ {v : V} {u : Value}, RCell c v u → RCell c' v u
  | .i _ _, _, h | .b _, _, h | .v _, _, h | .junk, _, h => h
  | .ro _ _ _, _, hr => roR.mono h.F h.cell (fun _ _ h => h) hr
  | .lp _ _, _, h | .rp _ _ _ _ _, _, h | .own _, _, h | .vw _ _ _ _, _, h | .op _ _ _ _, _, h | .fn _ _, _, h | .agg _, _, h | .tup _, _, h => by simp [RCell, RFl] at h

mutual
theorem RC.le {c c' : C} (h : c.Le0 c') : ∀ (v : V) (u : Value), RC c v u → RC c' v u
  | .i k n, u, hr => by simpa [RC] using hr
  | .b x, u, hr => by simpa [RC] using hr
  | .v v, u, hr => by simpa [RC] using hr
  | .lp x o, u, hr => by simp only [RC] at hr ⊢; exact ⟨Nat.lt_of_lt_of_le hr.1 h.nv, by rw [h.g x hr.1]; exact hr.2⟩
  | .ro n sz cs, u, hr => by
    simp only [RC] at hr ⊢
    exact roR.mono h.F h.cell (fun _ _ => RCell.le h) hr
  | .rp n sz cs i j, u, hr => by
    simp only [RC] at hr ⊢
    obtain ⟨a, e, h0, h1, hFa, h3⟩ := hr
    refine ⟨a, e, h0, h1, h.F _ hFa, fun i' j' hi hj => ?_⟩
    obtain ⟨u', hu, ho, hq⟩ := h3 i' j' hi hj
    exact ⟨u', by rw [h.cell _ (by rw [add_blk]; exact hFa)]; exact hu, ho, RCell.le h hq⟩
  | .agg l, u, hr | .tup l, u, hr | .fn _ l, u, hr => by
    simp only [RC] at hr ⊢
    obtain ⟨us, e, hq⟩ := hr
    exact ⟨us, e, RCs.le h l _ hq⟩
  | .own _, u, hr => by simp [RC] at hr
  | .vw _ _ _ _, u, hr => by simp [RC] at hr
  | .op _ _ _ _, u, hr => by simp [RC] at hr
  | .junk, u, hr => by simp [RC]
theorem RCs.le {c c' : C} (h : c.Le0 c') : ∀ (vs : List V) (us : List Value), RCs c vs us → RCs c' vs us
  | [], us, hr => by simpa [RCs] using hr
  | v :: vs, us, hr => by
    simp only [RCs] at hr ⊢
    obtain ⟨u, us', e, h1, h2⟩ := hr
    exact ⟨u, us', e, RC.le h v u h1, RCs.le h vs us' h2⟩
end

mutual
theorem RV.le {c c' : C} (h : c.Le c') : ∀ (v : V) (u : Value), RV c v u → RV c' v u
  | .i k n, u, hr => by simp only [RV] at hr ⊢; exact RC.le h.toLe0 _ _ hr
  | .b x, u, hr => by simp only [RV] at hr ⊢; exact RC.le h.toLe0 _ _ hr
  | .v v, u, hr => by simp only [RV] at hr ⊢; exact RC.le h.toLe0 _ _ hr
  | .lp x o, u, hr => by simp only [RV] at hr ⊢; exact RC.le h.toLe0 _ _ hr
  | .ro n sz cs, u, hr => by simp only [RV] at hr ⊢; exact RC.le h.toLe0 _ _ hr
  | .rp n sz cs i j, u, hr => by simp only [RV] at hr ⊢; exact RC.le h.toLe0 _ _ hr
  | .own r, u, hr => by simp only [RV] at hr ⊢; exact ⟨Nat.lt_of_lt_of_le hr.1 h.nr, by rw [h.r r hr.1]; exact hr.2⟩
  | .vw r sz lo n, u, hr => by simp only [RV] at hr ⊢; exact ⟨Nat.lt_of_lt_of_le hr.1 h.nr, by rw [h.r r hr.1]; exact hr.2⟩
  | .op r sz i j, u, hr => by simp only [RV] at hr ⊢; exact ⟨Nat.lt_of_lt_of_le hr.1 h.nr, by rw [h.r r hr.1]; exact hr.2⟩
  | .agg l, u, hr | .tup l, u, hr | .fn _ l, u, hr => by
    simp only [RV] at hr ⊢
    obtain ⟨us, e, hq⟩ := hr
    exact ⟨us, e, RVs.le h l _ hq⟩
  | .junk, u, hr => by simp [RV]
theorem RVs.le {c c' : C} (h : c.Le c') : ∀ (vs : List V) (us : List Value), RVs c vs us → RVs c' vs us
  | [], us, hr => by simpa [RVs] using hr
  | v :: vs, us, hr => by
    simp only [RVs] at hr ⊢
    obtain ⟨u, us', e, h1, h2⟩ := hr
    exact ⟨u, us', e, RV.le h v u h1, RVs.le h vs us' h2⟩
end

mutual
theorem RV.of_RC {c : C} : ∀ (v : V) (u : Value), RC c v u → RV c v u
  | .i k n, u, hr => by simpa only [RV] using hr
  | .b x, u, hr => by simpa only [RV] using hr
  | .v v, u, hr => by simpa only [RV] using hr
  | .lp x o, u, hr => by simpa only [RV] using hr
  | .ro n sz cs, u, hr => by simpa only [RV] using hr
  | .rp n sz cs i j, u, hr => by simpa only [RV] using hr
  | .own r, u, hr => by simp [RC] at hr
  | .vw _ _ _ _, u, hr => by simp [RC] at hr
  | .op _ _ _ _, u, hr => by simp [RC] at hr
  | .agg l, u, hr | .tup l, u, hr | .fn _ l, u, hr => by
    simp only [RC, RV] at hr ⊢
    obtain ⟨us, e, hq⟩ := hr
    exact ⟨us, e, RVs.of_RCs l _ hq⟩
  | .junk, u, hr => by simp [RV]
theorem RVs.of_RCs {c : C} : ∀ (vs : List V) (us : List Value), RCs c vs us → RVs c vs us
  | [], us, hr => by simpa [RCs, RVs] using hr
  | v :: vs, us, hr => by
    simp only [RCs, RVs] at hr ⊢
    obtain ⟨u, us', e, h1, h2⟩ := hr
    exact ⟨u, us', e, RV.of_RC v u h1, RVs.of_RCs vs us' h2⟩
end

/-! ### Lists of values -/
theorem RVs.length {c : C} : ∀ {vs : List V} {us : List Value}, RVs c vs us → us.length = vs.length
  | [], us, h => by simp only [RVs] at h; simp [h]
  | v :: vs, us, h => by
    simp only [RVs] at h
    obtain ⟨u, us', rfl, _, h2⟩ := h
    simp [RVs.length h2]
theorem RVs.cons {c : C} {v : V} {u : Value} {vs : List V} {us : List Value} (h : RV c v u) (hs : RVs c vs us) : RVs c (v :: vs) (u :: us) := by
  simp only [RVs]; exact ⟨u, us, rfl, h, hs⟩
theorem RVs.nil {c : C} : RVs c [] [] := by simp [RVs]
theorem RVs.append {c : C} : ∀ {vs : List V} {us : List Value} {vs' : List V} {us' : List Value}, RVs c vs us → RVs c vs' us' → RVs c (vs ++ vs') (us ++ us')
  | [], us, vs', us', h, h' => by simp only [RVs] at h; subst h; simpa using h'
  | v :: vs, us, vs', us', h, h' => by
    simp only [RVs] at h
    obtain ⟨u, us1, rfl, h1, h2⟩ := h
    exact .cons h1 (.append h2 h')
theorem RVs.drop {c : C} : ∀ (n : Nat) {vs : List V} {us : List Value}, RVs c vs us → RVs c (vs.drop n) (us.drop n)
  | 0, vs, us, h => by simpa using h
  | n + 1, [], us, h => by simp only [RVs] at h; subst h; simp [RVs]
  | n + 1, v :: vs, us, h => by
    simp only [RVs] at h
    obtain ⟨u, us1, rfl, h1, h2⟩ := h
    simpa using RVs.drop n h2
theorem RVs.take {c : C} : ∀ (n : Nat) {vs : List V} {us : List Value}, RVs c vs us → RVs c (vs.take n) (us.take n)
  | 0, vs, us, h => by simp [RVs]
  | n + 1, [], us, h => by simp only [RVs] at h; subst h; simp [RVs]
  | n + 1, v :: vs, us, h => by
    simp only [RVs] at h
    obtain ⟨u, us1, rfl, h1, h2⟩ := h
    simpa using RVs.cons h1 (RVs.take n h2)
theorem RVs.get {c : C} : ∀ {vs : List V} {us : List Value} (i : Nat) {v : V}, RVs c vs us → vs[i]? = some v → ∃ u, us[i]? = some u ∧ RV c v u
  | [], us, i, v, h, hv => by simp at hv
  | x :: vs, us, 0, v, h, hv => by
    simp only [RVs] at h
    obtain ⟨u, us1, rfl, h1, h2⟩ := h
    simp at hv; subst hv
    exact ⟨u, rfl, h1⟩
  | x :: vs, us, i + 1, v, h, hv => by
    simp only [RVs] at h
    obtain ⟨u, us1, rfl, h1, h2⟩ := h
    simpa using RVs.get i h2 (by simpa using hv)
theorem RVs.set {c : C} : ∀ {vs : List V} {us : List Value} (i : Nat) {v : V} {u : Value}, RVs c vs us → RV c v u → RVs c (vs.set i v) (us.set i u)
  | [], us, i, v, u, h, hv => by simp only [RVs] at h; subst h; simp [RVs]
  | x :: vs, us, 0, v, u, h, hv => by
    simp only [RVs] at h
    obtain ⟨u0, us1, rfl, h1, h2⟩ := h
    simpa using RVs.cons hv h2
  | x :: vs, us, i + 1, v, u, h, hv => by
    simp only [RVs] at h
    obtain ⟨u0, us1, rfl, h1, h2⟩ := h
    simpa using RVs.cons h1 (RVs.set i h2 hv)
theorem RVs.getD {c : C} {vs : List V} {us : List Value} (i : Nat) (d : Value) (h : RVs c vs us) : RV c (vs.getD i .junk) (us.getD i d) := by
  cases hv : vs[i]? with
  | none => simp [List.getD, hv, RV]
  | some v =>
    obtain ⟨u, hu, hr⟩ := h.get i hv
    simpa [List.getD, hv, hu] using hr
end Go.Dx
