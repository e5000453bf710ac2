/- Rows that become data; a place in an array of variables, by cases. -/
import Derived.Test.YtplefbcgpbdkfaaDoorFp
set_option linter.all false
namespace Go.Fx
open Go Go.RowKit

mutual
def frzV (rows : List Row) (p : Nat → Bool) : V → V
  | .own r => if p r then (match rows[r]? with | some b => if b.live then .ro b.t b.n b.l else .junk | none => .junk) else .own r
  | .vw r sz lo n => if p r then (match rows[r]? with | some b => if b.live && b.t.size == sz then .ro b.t n (cutL b.l lo n) else .junk | none => .junk) else .vw r sz lo n
  | .op r sz i j => if p r then (match rows[r]? with | some b => if b.live && b.t.size == sz then .rp b.t b.l i j else .junk | none => .junk) else .op r sz i j
  | .agg l => .agg (frzVs rows p l)
  | .tup l => .tup (frzVs rows p l)
  | .fn f l => .fn f (frzVs rows p l)
  | .i k n => .i k n
  | .b x => .b x
  | .nx b p r => .nx b p r
  | .pt e => .pt e
  | .bk r sz k n => .bk r sz k n
  | .v v => .v v
  | .x t e => .x t e
  | .lp x o => .lp x o
  | .ro t n l => .ro t n l
  | .rp t l i j => .rp t l i j
  | .obj x => .obj x
  | .junk => .junk
def frzVs (rows : List Row) (p : Nat → Bool) : List V → List V
  | [] => []
  | v :: vs => frzV rows p v :: frzVs rows p vs
end
theorem frzVs_length (rows : List Row) (p : Nat → Bool) : ∀ l : List V, (frzVs rows p l).length = l.length
  | [] => rfl
  | _ :: l => by simp [frzVs, frzVs_length rows p l]
def Ctn.frz (rows : List Row) (p : Nat → Bool) : Ctn → Ctn
  | .pk t e => .pk t e
  | .ls l => .ls (frzVs rows p l)
theorem Ctn.frz_size (rows : List Row) (p : Nat → Bool) (ct : Ctn) : (ct.frz rows p).size = ct.size := by cases ct <;> simp [Ctn.frz, Ctn.size, frzVs_length]
def S.frz (s : S) (p : Nat → Bool) : S :=
  { s with tmps := frzVs s.rows p s.tmps, vars := s.vars.map fun b => ⟨b.live, b.ct.frz s.rows p⟩, rows := mapI (fun r b => if p r then ⟨false, b.fix, b.e, b.t, b.n, b.l⟩ else b) 0 s.rows }
def C.frz (c : C) (s : S) (p : Nat → Bool) : C := { c with F := fun k o => c.F k o ∨ ∃ r, p r = true ∧ foot c s (.r r) k o }
theorem C.frz_le0 (c : C) (s : S) (p : Nat → Bool) : c.Le0 (c.frz s p) := ⟨fun _ _ h => .inl h, fun _ _ _ => rfl⟩
theorem C.frz_RV {c : C} {s : S} {p : Nat → Bool} (v : V) (u : Value) (h : RV c v u) : RV (c.frz s p) v u :=
  RV.le (c := c) (c' := c.frz s p) { F := fun _ _ h => .inl h, spot := fun _ _ _ => rfl, g := fun _ _ => rfl, nv := Nat.le_refl _, r := fun _ _ => rfl, nr := Nat.le_refl _, ob := fun _ _ => rfl, nb := Nat.le_refl _ } v u h
section
variable {P : Program} {T : TypeId → TI} {w0 : World} {fp : Base} {c : C} {s t : S} {a a' : Act} {f : FuncId} {R : Ending → World → Prop} {p : Nat → Bool}
theorem tail_frz (h : Holds w0 fp c s a) {t : Tp} {v : V} {u : Value} {m : I} {d : List t.T} (hr : RV c v u) (ht : tailOf s t v = some (m, d)) (hp : ∀ r, ofRow r v → p r = true) : RV (c.frz s p) (.ro t m d) u := by
  obtain ⟨A, cp, news, rfl, hm, h1, h2, hR, hnews⟩ := tailOf_sound h hr ht
  simp only [RV]
  refine ⟨hm, A, cp, rfl, h1, h2, ?_⟩
  rcases hnews with h3 | ⟨g, o, rfl, hc, hl⟩
  · exact .inl h3
  · refine .inr ⟨g, o, news, rfl, ⟨fun j hj => ?_, hc, hR.one⟩, hR.le (c.frz_le0 s p)⟩
    rcases hl j hj with q | ⟨r, hr', q⟩
    · exact .inl q
    · exact .inr ⟨r, hp r hr', q⟩
mutual
theorem frzV_sound (h : Holds w0 fp c s a) : ∀ (v : V) (u : Value), RV c v u → RV (c.frz s p) (frzV s.rows p v) u
  | .own r, u, hr => by
    simp only [frzV]
    split
    case isFalse => exact C.frz_RV _ _ hr
    rename_i hpr
    split
    case h_2 => simp only [RV]
    rename_i b hb
    split
    case isFalse => simp only [RV]
    rename_i hl
    refine tail_frz h hr (m := b.n) (d := b.l) ?_ ?_
    · have hq := b.t.eq_self
      simp only [tailOf, hb, hq, dif_pos, hl, if_true]
      rfl
    · rintro r' (e | ⟨_, _, _, e⟩)
      · injection e with e; rw [← e]; exact hpr
      · cases e
  | .vw r sz lo n, u, hr => by
    simp only [frzV]
    split
    case isFalse => exact C.frz_RV _ _ hr
    rename_i hpr
    split
    case h_2 => simp only [RV]
    rename_i b hb
    split
    case isFalse => simp only [RV]
    rename_i hl
    refine tail_frz h hr (m := n) (d := cutL b.l lo n) ?_ ?_
    · have hq := b.t.eq_self
      simp only [tailOf, hb, hq, dif_pos, hl, if_true]
      rfl
    · rintro r' (e | ⟨_, _, _, e⟩)
      · cases e
      · injection e with e; rw [← e]; exact hpr
  | .op r sz i j, u, hr => by
    simp only [frzV]
    split
    case isFalse => exact C.frz_RV _ _ hr
    rename_i hpr
    split
    case h_2 => simp only [RV]
    rename_i b hb
    split
    case isFalse => simp only [RV]
    rename_i hl
    simp only [Bool.and_eq_true, beq_iff_eq] at hl
    obtain ⟨hl, rfl⟩ := hl
    simp only [RV] at hr ⊢
    obtain ⟨hlt, g, o, n, cap, hrr, h0, h1, rfl⟩ := hr
    obtain ⟨us, hn, hat, hc, hR, hlen⟩ := h.rowAt hb hl hrr (by omega)
    refine ⟨h0, by omega, g, o, us, rfl, ⟨fun j hj => .inr ⟨r, hpr, b, hb, hl, ?_⟩, fun j u hu => hc.get hu, hR.one⟩, hR.le (c.frz_le0 s p)⟩
    rw [hrr]
    exact ⟨rfl, .inr ⟨Nat.le_add_right _ _, by rw [hn, ← hlen]; simp only; omega⟩⟩
  | .agg l, u, hr => by
    simp only [frzV, RV] at hr ⊢
    obtain ⟨us, e, hq⟩ := hr
    exact ⟨us, e, frzVs_sound h l us.toList hq⟩
  | .tup l, u, hr => by
    simp only [frzV, RV] at hr ⊢
    obtain ⟨us, e, hq⟩ := hr
    exact ⟨us, e, frzVs_sound h l us.toList hq⟩
  | .fn g l, u, hr => by
    simp only [frzV, RV] at hr ⊢
    obtain ⟨us, e, hq⟩ := hr
    exact ⟨us, e, frzVs_sound h l us.toList hq⟩
  | .i k n, u, hr => by simpa only [frzV] using C.frz_RV _ _ hr
  | .b x, u, hr => by simpa only [frzV] using C.frz_RV _ _ hr
  | .nx b p r, u, hr => by simpa only [frzV] using C.frz_RV _ _ hr
  | .pt e, u, hr => by simpa only [frzV] using C.frz_RV _ _ hr
  | .bk r sz k n, u, hr => by simpa only [frzV] using C.frz_RV _ _ hr
  | .v x, u, hr => by simpa only [frzV] using C.frz_RV _ _ hr
  | .x t e, u, hr => by simpa only [frzV] using C.frz_RV _ _ hr
  | .lp x o, u, hr => by simpa only [frzV] using C.frz_RV _ _ hr
  | .ro t n l, u, hr => by simpa only [frzV] using C.frz_RV _ _ hr
  | .rp t l i j, u, hr => by simpa only [frzV] using C.frz_RV _ _ hr
  | .obj x, u, hr => by simpa only [frzV] using C.frz_RV _ _ hr
  | .junk, u, hr => by simp only [frzV, RV]
theorem frzVs_sound (h : Holds w0 fp c s a) : ∀ (vs : List V) (us : List Value), RVs c vs us → RVs (c.frz s p) (frzVs s.rows p vs) us
  | [], us, hr => by simpa only [frzVs, RVs] using hr
  | v :: vs, us, hr => by
    simp only [frzVs, RVs] at hr ⊢
    obtain ⟨u, us', e, h1, h2⟩ := hr
    exact ⟨u, us', e, frzV_sound h v u h1, frzVs_sound h vs us' h2⟩
end
theorem frz_foot {q : Rt} {k o : Nat} (hq : foot (c.frz s p) (s.frz p) q k o) : foot c s q k o ∧ ∀ r, q = .r r → p r = false := by
  cases q with
  | v x =>
    obtain ⟨b', hb', hl, hk⟩ := hq
    simp only [S.frz, List.getElem?_map, Option.map_eq_some_iff] at hb'
    obtain ⟨b, hb, rfl⟩ := hb'
    simp only [Ctn.frz_size] at hk
    exact ⟨⟨b, hb, hl, hk⟩, fun r e => by cases e⟩
  | r r =>
    obtain ⟨b', hb', hl, hk⟩ := hq
    simp only [S.frz, mapI_get, Option.map_eq_some_iff, Nat.zero_add] at hb'
    obtain ⟨b, hb, rfl⟩ := hb'
    split at hl
    · cases hl
    rename_i hp
    rw [if_neg hp] at hk
    exact ⟨⟨b, hb, hl, hk⟩, fun r' e => by injection e with e; subst e; simpa using hp⟩
  | o x => exact ⟨hq, fun r e => by cases e⟩
theorem frz_keep {q : Rt} {k o : Nat} (hq : foot c s q k o) : foot (c.frz s p) (s.frz p) q k o ∨ (c.frz s p).F k o := by
  cases q with
  | v x =>
    obtain ⟨b, hb, hl, hk⟩ := hq
    exact .inl ⟨⟨b.live, b.ct.frz s.rows p⟩, by simp [S.frz, hb], hl, by simp only [Ctn.frz_size]; exact hk⟩
  | r r =>
    cases hp : p r with
    | true => exact .inr (.inr ⟨r, hp, hq⟩)
    | false =>
      obtain ⟨b, hb, hl, hk⟩ := hq
      exact .inl ⟨b, by simp [S.frz, mapI_get, hb, hp], hl, hk⟩
  | o x => exact .inl hq
theorem RF_frz {l : List Rt} {k o : Nat} (h : RF c s l k o) : RF (c.frz s p) (s.frz p) l k o := by
  rcases h with h | ⟨q, hq, h⟩
  · exact .inl (.inl h)
  · rcases frz_keep (p := p) h with z | z
    · exact .inr ⟨q, hq, z⟩
    · exact .inl z
/-- Rows that did not come in become data. -/
theorem Holds.frz {A : Anc} (hA : A.of fp) (h : Holds w0 fp c s a) (hp : ∀ r, p r = true → A.fix.length ≤ r) : Holds w0 fp (c.frz s p) (s.frz p) a := by
  have le0 := c.frz_le0 s p
  refine { gl := fun p hp => ⟨.inl (h.gl p hp).1, (h.gl p hp).2⟩, keeps := h.keeps, eF := fun k o hF => .inl (h.eF k o hF), eF2 := fun k o hF => ?_, lk := h.lk, fpk := h.fpk, tmps := frzVs_sound h _ _ h.tmps, defers := h.defers, nv := by simp only [S.frz, List.length_map]; exact h.nv, nr := by simp only [S.frz, mapI_length]; exact h.nr, nb := h.nb, vars := fun x b' hb' hl => ?_, rows := fun r b' hb' hl => ?_, objs := fun x b hb hl => ?_, disj := fun q q' k o h1 h2 => h.disj _ _ k o (frz_foot h1).1 (frz_foot h2).1, mine := fun q k o h1 => ?_, free := fun q k o h1 hq => h.free q k o (frz_foot h1).1 hq, flt := fun k o hF => ?_, ag := h.ag, ar := fun r v hv => ?_, ao := h.ao }
  · rcases hF with hF | ⟨r, hr, hF⟩
    · exact h.eF2 k o hF
    · rcases (h.mine _ k o hF).1 with z | z
      · exact .inr z
      · exact absurd z (h.fpk.gr _ k o (by rw [hA.gr]; exact hp r hr))
  · simp only [S.frz, List.getElem?_map, Option.map_eq_some_iff] at hb'
    obtain ⟨b, hb, rfl⟩ := hb'
    refine (h.vars x b hb hl).keep (fun _ _ _ => rfl) rfl (Ctn.frz_size _ _ _) (fun us hu => ?_)
    cases hct : b.ct with
    | pk t e => rw [hct] at hu; exact Rp.le le0 hu
    | ls l => rw [hct] at hu; exact frzVs_sound h _ _ hu
  · simp only [S.frz, mapI_get, Option.map_eq_some_iff, Nat.zero_add] at hb'
    obtain ⟨b, hb, rfl⟩ := hb'
    split at hl
    · cases hl
    rename_i hpr
    rw [if_neg hpr]
    exact (h.rows r b hb hl).keep (fun _ _ _ => rfl) rfl le0
  · exact (h.objs x b hb hl).keep (fun _ _ z => .inl z) (fun _ _ _ => rfl) (Nat.le_refl _)
  · obtain ⟨g1, g2⟩ := frz_foot h1
    obtain ⟨m1, m2⟩ := h.mine q k o g1
    refine ⟨m1, fun hF => ?_⟩
    rcases hF with hF | ⟨r, hr, hF⟩
    · exact m2 hF
    · have := g2 r (h.disj _ _ k o g1 hF)
      rw [hr] at this; cases this
  · rcases hF with hF | ⟨r, hr, hF⟩
    · exact h.flt k o hF
    · exact foot_lt h hF
  · obtain ⟨q1, b, hb, hl, hf⟩ := h.ar r v hv
    have hpr : p r = false := by
      cases hh : p r with
      | false => rfl
      | true => have := hp r hh; have := (hA.r r v hv).1; omega
    exact ⟨q1, b, by simp [S.frz, mapI_get, hb, hpr], hl, hf⟩
theorem GoesP.of_sub {c' : C} {s' : S} {q : Pos} (hw : c'.w = c.w) (hs : ∀ l k o, RF c s l k o → RF c' s' l k o) (h : GoesP P f R c' s' q a) : GoesP P f R c s q a := by
  cases q with
  | items l => show Goes P f R l a c.w; rw [← hw]; exact h
  | open_ n ops li rds l => intro hsel; rw [← hw]; exact wpE_mono n (hs rds) _ _ _ (h hsel)
  | pick n ops li j rds l =>
    intro hsel
    have := h hsel
    rw [hw] at this
    refine wpOp_mono ?_ this
    intro a' w' hq
    rcases hq with ⟨h1, h2⟩ | hq
    · exact .inl ⟨h1.mono (hs rds), wpE_mono n (hs rds) _ _ _ h2⟩
    · exact .inr hq
theorem GoesS.frz {A : Anc} (hA : A.of fp) {its : List It} (hp : ∀ r, p r = true → A.fix.length ≤ r) (h : GoesS P f w0 fp R its (s.frz p)) : GoesS P f w0 fp R its s := fun q c a ht hh =>
  GoesP.of_sub (c' := c.frz s p) rfl (fun l k o => RF_frz) (h q (c.frz s p) a ht (hh.frz hA hp))

/-! ### Which rows -/
mutual
def rowsV : V → List Nat
  | .own r => [r]
  | .vw r _ _ _ => [r]
  | .op r _ _ _ => [r]
  | .agg l => rowsVs l
  | .tup l => rowsVs l
  | _ => []
def rowsVs : List V → List Nat
  | [] => []
  | v :: vs => rowsV v ++ rowsVs vs
end
mutual
/-- Rows at places where data are wanted. -/
def coldV : Sh → V → List Nat
  | .d _, v => rowsV v
  | .is _, _ => []
  | .bk _ _, _ => []
  | .agg l, v => match v with | .agg vs => coldVs l vs | .tup vs => coldVs l vs | _ => []
def coldVs : List Sh → List V → List Nat
  | a :: l, v :: vs => coldV a v ++ coldVs l vs
  | _, _ => []
end
def coldC : VP → Ctn → List Nat
  | .pk _, ct => rowsVs ct.cells
  | .ls l, ct => coldVs l ct.cells
/-- None of those that came in. -/
def Anc.own (A : Anc) (l : List Nat) : List Nat := l.filter fun r => decide (A.fix.length ≤ r)
def frzL (l : List Nat) (s : S) : S := match l with
  | [] => s
  | _ => s.frz l.contains
def frzA (l : List Nat) (rows : List Row) (vs : List V) : List V := match l with
  | [] => vs
  | _ => frzVs rows l.contains vs
/-- Rows that a pattern has no name for. -/
def Anc.rest (A : Anc) (σ : Sg) (n : Nat) (s : S) : List Nat :=
  (List.range s.rows.length).filter fun r => decide (A.fix.length ≤ r) && (s.rows[r]?).any Row.live && !(List.range n).any fun x => σ.sr x == some r
theorem Anc.own_spec {A : Anc} {l : List Nat} {r : Nat} (h : (A.own l).contains r = true) : A.fix.length ≤ r := by
  simp only [List.contains_iff_mem, Anc.own, List.mem_filter, decide_eq_true_eq] at h
  exact h.2
theorem Anc.rest_spec {A : Anc} {σ : Sg} {n : Nat} {r : Nat} (h : (A.rest σ n s).contains r = true) : A.fix.length ≤ r := by
  simp only [List.contains_iff_mem, Anc.rest, List.mem_filter, Bool.and_eq_true, decide_eq_true_eq] at h
  exact h.2.1.1
/-- The frozen state: what is known, and what is at hand. -/
theorem Holds.frzL {A : Anc} (hA : A.of fp) (h : Holds w0 fp c s a) {l : List Nat} (hp : ∀ r, l.contains r = true → A.fix.length ≤ r) : ∃ c' : C, c'.w = c.w ∧ Holds w0 fp c' (frzL l s) a ∧ (∀ vs us, RVs c vs us → RVs c' (frzA l s.rows vs) us) ∧ ∀ m k o, RF c s m k o → RF c' (Fx.frzL l s) m k o := by
  cases l with
  | nil => exact ⟨c, rfl, h, fun _ _ z => z, fun _ _ _ z => z⟩
  | cons x l => exact ⟨c.frz s (x :: l).contains, rfl, h.frz hA hp, frzVs_sound h, fun _ _ _ => RF_frz⟩
theorem GoesS.frzL {A : Anc} (hA : A.of fp) {its : List It} {l : List Nat} (hp : ∀ r, l.contains r = true → A.fix.length ≤ r) (h : GoesS P f w0 fp R its (frzL l s)) : GoesS P f w0 fp R its s := fun q c a ht hh => by
  obtain ⟨c', hw, hh', _, hs⟩ := hh.frzL hA hp
  exact GoesP.of_sub hw hs (h q c' a ht hh')
theorem CallGood.frzL {A : Anc} (hA : A.of fp) {g : FuncId} {args : List V} {dst : Option Nat} {ask : Option (List Rt)} {its : List It} {l : List Nat} (hp : ∀ r, l.contains r = true → A.fix.length ≤ r)
    (h : CallGood P f w0 fp R g (frzA l s.rows args) dst ask its (frzL l s)) : CallGood P f w0 fp R g args dst ask its s := by
  refine ⟨h.1, fun c a us hh hus => ?_⟩
  obtain ⟨c', hw, hh', hv, hs⟩ := hh.frzL hA hp
  have := h.2 c' a us hh' (hv _ _ hus)
  rw [hw] at this
  refine this.mono ?_
  rintro e w' ⟨u, rfl, c2, s2, v, h1, h2, h3, h4, h5⟩
  refine ⟨u, rfl, c2, s2, v, h1, fun m hm => ?_, h3, h4, h5⟩
  obtain ⟨k1, k2⟩ := h2 m hm
  rw [hw] at k1
  exact ⟨k1.mono (hs m), fun k o hk => k2 k o (hs m k o hk)⟩

/-! ### Which place of an array -/
def caseOp (T : TypeId → TI) (s : S) (o : Op) : Option (Nat × IntKind × Int × Nat) :=
  match o with
  | .indexAddr t _ (.tmp d) | .index t _ (.tmp d) => match s.tmps[d]?, (T t).d with
    | some (.i k (.s i)), .arr n _ => if n ≤ 16 then some (d, k, i, n) else none
    | _, _ => none
  | _ => none
def caseBad (T : TypeId → TI) (s : S) : List It → Option (Nat × IntKind × Int × Nat)
  | .openR (_ + 1) ops listed _ :: _ => match (Region.ready .any ops listed).find? (takes ops listed) with
    | some i => (ops[i]?).bind fun o => caseOp T s o.op
    | none => none
  | _ => none
/-- What a stuck operation wants as data. -/
def coldOp (s : S) : Op → List Nat
  | .store _ _ y => rowsV (ev s y)
  | .buildSlice _ _ parts => rowsVs (parts.toList.map fun q => ev s q.2)
  | .build _ parts => rowsVs (parts.toList.map fun q => ev s q.2)
  | _ => []
theorem caseOp_spec {o : Op} {d : Nat} {k : IntKind} {i : Int} {n : Nat} (h : caseOp T s o = some (d, k, i, n)) : s.tmps[d]? = some (.i k (.s i)) := by
  unfold caseOp at h
  split at h
  · split at h
    · rename_i hd _
      split at h
      · injection h with h; injection h with h1 h; injection h with h2 h; injection h with h3 h4
        rw [← h1, hd, h2, h3]
      · cases h
    · cases h
  · split at h
    · rename_i hd _
      split at h
      · injection h with h; injection h with h1 h; injection h with h2 h; injection h with h3 h4
        rw [← h1, hd, h2, h3]
      · cases h
    · cases h
  · cases h
theorem caseBad_spec {t : List It} {d : Nat} {k : IntKind} {i : Int} {n : Nat} (h : caseBad T s t = some (d, k, i, n)) : s.tmps[d]? = some (.i k (.s i)) := by
  unfold caseBad at h
  split at h
  · split at h
    · obtain ⟨o, _, h⟩ := Option.bind_eq_some_iff.1 h
      exact caseOp_spec h
    · cases h
  · cases h
theorem GoesS.case {its : List It} {d : Nat} {k : IntKind} {i : Int} {n : Nat} (hd : s.tmps[d]? = some (.i k (.s i))) (h0 : 0 ≤ i) (h1 : i < n) (h : ∀ j : Nat, j < n → i = j → GoesS P f w0 fp R its (s.put (some d) (.i k (.l j)))) : GoesS P f w0 fp R its s := fun q c a ht hh => by
  obtain ⟨j, rfl⟩ := Int.eq_ofNat_of_zero_le h0
  have := h j (by omega) rfl q c a ht (by
    obtain ⟨u, hu, hr⟩ := hh.tmps.get d hd
    refine hh.same rfl rfl ?_ hh.defers
    have h2 := RVs.set d hh.tmps (v := .i k (.l (j : Int))) (u := u) (by simpa only [RV, I.val] using hr)
    rwa [show a.tmps.toList.set d u = a.tmps.toList from by
      apply List.ext_getElem?
      intro i
      by_cases hi : d = i
      · subst hi
        rw [List.getElem?_set_self (List.getElem?_eq_some_iff.1 hu).1, hu]
      · rw [List.getElem?_set_ne hi]] at h2)
  exact GoesP.of_sub rfl (fun l k o z => by rw [RF_put]; exact z) this
end
end Go.Fx
