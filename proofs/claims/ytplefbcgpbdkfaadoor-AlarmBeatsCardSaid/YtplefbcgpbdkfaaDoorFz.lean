/- Objects shut again. -/
import Derived.Test.YtplefbcgpbdkfaaDoorFy
set_option linter.all false
namespace Go.Fx
open Go Go.RowKit

section
variable {P : Program} {E : Env} {w0 : World} {fp : Base} {c : C} {s t : S} {a a' : Act}

/-! ### How deep -/
theorem ObjR.up {E : Env} {w : World} {F : Foot} : ∀ {f : Nat} {k : OK} {t : Tp} {e : t.T} {v : Value} {D : Foot}, ObjR E f k t e w F v D → ObjR E (f + 1) k t e w F v D := by
  intro f
  induction f with
  | zero => intro k t e v D h; exact h.elim
  | succ f ih =>
    intro k t e v D h
    cases k with
    | one n =>
      obtain ⟨us, lc, h0, h1, h2, h3, h4, h6, h7, h8, h9, h10, h11, h12, h13, h14, h15⟩ := h
      exact ⟨us, lc, h0, h1, h2, h3, h4, h6, h7, h8, h9, h10, h11, h12, fun x b hb hl => ⟨ih (h13 x b hb hl).1, (h13 x b hb hl).2⟩, h14, h15⟩
    | aren n =>
      cases t with
      | sl t =>
        cases t with
        | p t1 t =>
          cases t1 with
          | pt =>
            obtain ⟨us, D', h2, h4⟩ := h
            exact ⟨us, D', SeqR.mono (fun x u D1 _ hx => ⟨hx.1, hx.2.1, ih hx.2.2⟩) h2, h4⟩
          | _ => exact h.elim
        | _ => exact h.elim
      | _ => exact h.elim
    | sls ty ty' =>
      cases t with
      | sl t =>
        cases t with
        | sl t => exact h
        | _ => exact h.elim
      | _ => exact h.elim
    | it =>
      cases t with
      | p t1 t2 =>
        cases t1 with
        | tx =>
          cases t2 with
          | i kd =>
            cases kd with
            | i64 => exact h
            | _ => exact h.elim
          | _ => exact h.elim
        | _ => exact h.elim
      | _ => exact h.elim
    | opq => trivial
    | blk n => exact h
theorem ObjR.ups {E : Env} {w : World} {F : Foot} {f f' : Nat} (hf : f ≤ f') {k : OK} {t : Tp} {e : t.T} {v : Value} {D : Foot} (h : ObjR E f k t e w F v D) : ObjR E f' k t e w F v D := by
  induction hf with
  | refl => exact h
  | step _ ih => exact ih.up
theorem ObjR.deep {E : Env} {w : World} {F : Foot} (g : Nat → Value) (fo : Nat → Foot) : ∀ (l : List Ob) (m : Nat), (∀ (x : Nat) (b : Ob), l[x]? = some b → b.live = true → ∃ f, ObjR E f b.k b.t b.e w F (g (m + x)) (fo (m + x))) → ∃ f, ∀ (x : Nat) (b : Ob), l[x]? = some b → b.live = true → ObjR E f b.k b.t b.e w F (g (m + x)) (fo (m + x))
  | [], _, _ => ⟨0, fun x b hb => by simp at hb⟩
  | b0 :: l, m, h => by
    obtain ⟨f1, h1⟩ := ObjR.deep g fo l (m + 1) (fun x b hb hl => by
      have := h (x + 1) b (by simpa using hb) hl
      rwa [show m + (x + 1) = m + 1 + x from by omega] at this)
    by_cases hl0 : b0.live = true
    · obtain ⟨f2, h2⟩ := h 0 b0 rfl hl0
      refine ⟨f1 + f2, fun x b hb hl => ?_⟩
      cases x with
      | zero => simp at hb; subst hb; exact h2.ups (by omega)
      | succ x =>
        have := h1 x b (by simpa using hb) hl
        rw [show m + 1 + x = m + (x + 1) from by omega] at this
        exact this.ups (by omega)
    · refine ⟨f1, fun x b hb hl => ?_⟩
      cases x with
      | zero => simp at hb; subst hb; exact absurd hl hl0
      | succ x =>
        have := h1 x b (by simpa using hb) hl
        rwa [show m + 1 + x = m + (x + 1) from by omega] at this

/-! ### Shutting -/
def S.shutAt (s : S) (k : Con) (σ : Sg) (x : Nat) (b : Ob) : S :=
  let os := mapI (fun i (o : Ob) => if k.hit σ (.o i) then { o with live := false } else o) 0 s.objs
  { s with
    vars := mapI (fun i (v : Var) => if k.hit σ (.v i) then ⟨false, v.ct⟩ else v) 0 s.vars
    rows := mapI (fun i (r : Row) => if k.hit σ (.r i) then { r with live := false } else r) 0 s.rows
    objs := if x < s.objs.length then os.set x b else os ++ [b] }
def C.shutAt (c : C) (x : Nat) (u : Value) (D : Foot) : C := { c with
  ob := fun i => if i = x then u else c.ob i
  fo := fun i => if i = x then D else c.fo i
  nb := if x < c.nb then c.nb else c.nb + 1 }
theorem Con.may_img {k : Con} {σ : Sg} {q q0 : Rt} (hro : k.ro = false) (hm : k.may s σ = true) (h : σ.img k.vars.length k.rows.length k.objs.length q q0) : s.lk.has q0 = false := by
  simp only [Con.may, hro, Bool.false_eq_true, if_false, Bool.and_eq_true] at hm
  cases h with
  | v x hx => have := List.all_eq_true.1 hm.1.1 x (by simpa using hx); simpa using this
  | r x r hx hr => have := List.all_eq_true.1 hm.1.2 x (by simpa using hx); rw [hr] at this; simpa using this
  | o x hx => have := List.all_eq_true.1 hm.2 x (by simpa using hx); simpa using this
theorem Holds.shutAt (h : Holds w0 fp c s a) {k : Con} (hro : k.ro = false) {σ : Sg} (hmay : k.may s σ = true) {x : Nat} {b : Ob} {u : Value} {D : Foot} (hx : x ≤ s.objs.length) (hxh : k.hit σ (.o x) = false) (hbl : b.live = true) (hbs : b.k.still = true)
    (hub : x < s.objs.length → u = c.ob x) (hbo : ObjOK fp.K c.w c.F b u D) (hD : ∀ p o, D p o → (∃ q q0, σ.img k.vars.length k.rows.length k.objs.length q q0 ∧ foot c s q0 p o) ∨ foot c s (.o x) p o)
    (hanr : ∀ i v, k.hit σ (.r i) = true → fp.r[i]? ≠ some (some v)) (hano : ∀ i v, k.hit σ (.o i) = true → fp.o[i]? ≠ some (some v)) :
    c.Le (c.shutAt x u D) ∧ Holds w0 fp (c.shutAt x u D) (s.shutAt k σ x b) a := by
  have hnb := h.nb
  have le : c.Le (c.shutAt x u D) := { F := fun _ _ h => h, spot := fun _ _ _ => rfl, g := fun _ _ => rfl, nv := Nat.le_refl _, r := fun _ _ => rfl, nr := Nat.le_refl _
                                       ob := fun i hi => by simp only [C.shutAt]; split
                                                            · rename_i e; subst e; exact hub (by rw [← hnb]; exact hi)
                                                            · rfl
                                       nb := by show c.nb ≤ (if x < c.nb then c.nb else c.nb + 1); split <;> omega }
  have objGet : ∀ y b0, (s.shutAt k σ x b).objs[y]? = some b0 → (y = x ∧ b0 = b) ∨ (y ≠ x ∧ ∃ b1, s.objs[y]? = some b1 ∧ b0 = if k.hit σ (.o y) then { b1 with live := false } else b1) := by
    intro y b0 hy
    simp only [S.shutAt] at hy
    split at hy
    · rename_i hlt
      rw [List.getElem?_set] at hy
      split at hy
      · rename_i e
        subst e
        rw [mapI_length, if_pos hlt] at hy
        exact .inl ⟨rfl, (Option.some.inj hy).symm⟩
      · rename_i e
        rw [mapI_get, Nat.zero_add] at hy
        obtain ⟨b1, hb1, rfl⟩ := Option.map_eq_some_iff.1 hy
        exact .inr ⟨fun q => e q.symm, b1, hb1, rfl⟩
    · rename_i hlt
      rw [List.getElem?_append, mapI_length] at hy
      split at hy
      · rename_i hy2
        rw [mapI_get, Nat.zero_add] at hy
        obtain ⟨b1, hb1, rfl⟩ := Option.map_eq_some_iff.1 hy
        exact .inr ⟨by omega, b1, hb1, rfl⟩
      · rename_i hy2
        have hlt2 := (List.getElem?_eq_some_iff.1 hy).1
        simp at hlt2
        have e : y = x := by omega
        subst e
        rw [show y - s.objs.length = 0 from by omega] at hy
        simp at hy
        exact .inl ⟨rfl, hy.symm⟩
  have objAt : (s.shutAt k σ x b).objs[x]? = some b := by
    simp only [S.shutAt]
    split
    · rename_i hlt
      rw [List.getElem?_set_self (by rw [mapI_length]; exact hlt)]
    · rw [List.getElem?_append_right (by rw [mapI_length]; omega), mapI_length, show x - s.objs.length = 0 from by omega]; rfl
  have hff : ∀ q p o, foot (c.shutAt x u D) (s.shutAt k σ x b) q p o → (q ≠ .o x ∧ foot c s q p o ∧ k.hit σ q = false) ∨ (q = .o x ∧ D p o) := by
    intro q p o hq
    cases q with
    | v y =>
      obtain ⟨v, hv, hl, hf⟩ := hq
      simp only [S.shutAt, mapI_get, Nat.zero_add] at hv
      obtain ⟨v1, hv1, rfl⟩ := Option.map_eq_some_iff.1 hv
      split at hl
      · cases hl
      · rename_i hn
        rw [if_neg hn] at hf
        exact .inl ⟨(fun e => by cases e), ⟨v1, hv1, hl, hf⟩, by simpa using hn⟩
    | r y =>
      obtain ⟨v, hv, hl, hf⟩ := hq
      simp only [S.shutAt, mapI_get, Nat.zero_add] at hv
      obtain ⟨v1, hv1, rfl⟩ := Option.map_eq_some_iff.1 hv
      split at hl
      · cases hl
      · rename_i hn
        rw [if_neg hn] at hf
        exact .inl ⟨(fun e => by cases e), ⟨v1, hv1, hl, hf⟩, by simpa using hn⟩
    | o y =>
      obtain ⟨v, hv, hl, hf⟩ := hq
      rcases objGet y v hv with ⟨rfl, rfl⟩ | ⟨hne, b1, hb1, rfl⟩
      · simp only [C.shutAt, if_true] at hf
        exact .inr ⟨rfl, hf⟩
      · simp only [C.shutAt, if_neg hne] at hf
        split at hl
        · cases hl
        · rename_i hn
          exact .inl ⟨fun e => by injection e with e; exact hne e, ⟨b1, hb1, hl, hf⟩, by simpa using hn⟩
  have hpart : ∀ p o, D p o → ∃ q0, foot c s q0 p o ∧ s.lk.has q0 = false ∧ (k.hit σ q0 = true ∨ q0 = .o x) := fun p o hp => by
    rcases hD p o hp with ⟨q, q0, i0, f0⟩ | f0
    · exact ⟨q0, f0, Con.may_img hro hmay i0, .inl (Con.hit_img hro i0)⟩
    · refine ⟨_, f0, ?_, .inr rfl⟩
      rw [h.lk]
      simp [LK.has, h.fpk.o]
  refine ⟨le, { keeps := h.keeps, eF := h.eF, eF2 := h.eF2, lk := h.lk, fpk := h.fpk, tmps := RVs.le le _ _ h.tmps, defers := h.defers, nv := by simp [C.shutAt, S.shutAt, mapI_length, h.nv], nr := by simp [C.shutAt, S.shutAt, mapI_length, h.nr], nb := ?_, vars := ?_, rows := ?_, objs := ?_, disj := ?_, mine := ?_, free := ?_, flt := h.flt, gl := h.gl, ag := h.ag, ar := ?_, ao := ?_ }⟩
  · simp only [C.shutAt, S.shutAt]
    rw [hnb]
    split <;> simp [mapI_length]
  · intro y v hv hl
    simp only [S.shutAt, mapI_get, Nat.zero_add] at hv
    obtain ⟨v1, hv1, rfl⟩ := Option.map_eq_some_iff.1 hv
    split at hl
    · cases hl
    · rename_i hn
      rw [if_neg hn]
      exact (h.vars y v1 hv1 hl).keep (fun _ _ _ => rfl) rfl rfl (fun us hr => hr.le le)
  · intro y v hv hl
    simp only [S.shutAt, mapI_get, Nat.zero_add] at hv
    obtain ⟨v1, hv1, rfl⟩ := Option.map_eq_some_iff.1 hv
    split at hl
    · cases hl
    · rename_i hn
      rw [if_neg hn]
      exact (h.rows y v1 hv1 hl).keep (fun _ _ _ => rfl) rfl le.toLe0
  · intro y v hv hl
    rcases objGet y v hv with ⟨rfl, rfl⟩ | ⟨hne, b1, hb1, rfl⟩
    · simp only [C.shutAt, if_true]; exact hbo
    · simp only [C.shutAt, if_neg hne]
      split at hl
      · cases hl
      · rename_i hn
        rw [if_neg hn]
        exact h.objs y b1 hb1 hl
  · intro q q' p o h1 h2
    rcases hff q p o h1 with ⟨n1, f1, t1⟩ | ⟨e1, d1⟩ <;> rcases hff q' p o h2 with ⟨n2, f2, t2⟩ | ⟨e2, d2⟩
    · exact h.disj _ _ p o f1 f2
    · obtain ⟨q0, f0, _, z⟩ := hpart p o d2
      have e := h.disj _ _ p o f1 f0
      subst e
      rcases z with z | z
      · rw [t1] at z; cases z
      · exact absurd z n1
    · obtain ⟨q0, f0, _, z⟩ := hpart p o d1
      have e := h.disj _ _ p o f2 f0
      subst e
      rcases z with z | z
      · rw [t2] at z; cases z
      · exact absurd z n2
    · rw [e1, e2]
  · intro q p o h1
    rcases hff q p o h1 with ⟨_, f1, _⟩ | ⟨rfl, d1⟩
    · exact h.mine q p o f1
    · obtain ⟨q0, f0, _, _⟩ := hpart p o d1
      obtain ⟨m1, m2⟩ := h.mine q0 p o f0
      exact ⟨m1.imp id fun m => Base.own_some m, m2⟩
  · intro q p o h1 hq
    rcases hff q p o h1 with ⟨_, f1, _⟩ | ⟨rfl, d1⟩
    · exact h.free q p o f1 hq
    · obtain ⟨q0, f0, z, _⟩ := hpart p o d1
      exact h.free q0 p o f0 (by rw [← h.lk]; exact z)
  · intro r v hr
    obtain ⟨q1, b1, hb1, hl1, hf1⟩ := h.ar r v hr
    have hn : ¬ k.hit σ (.r r) = true := fun z => hanr r v z hr
    exact ⟨q1, b1, by simp [S.shutAt, mapI_get, hb1, hn], hl1, hf1⟩
  · intro y v hy
    obtain ⟨q1, b1, hb1, hl1, hs1⟩ := h.ao y v hy
    have hlt := (List.getElem?_eq_some_iff.1 hb1).1
    by_cases e : y = x
    · subst e
      refine ⟨?_, b, objAt, hbl, hbs⟩
      simp only [C.shutAt, if_true]
      rw [hub hlt]; exact q1
    · have hn : ¬ k.hit σ (.o y) = true := fun z => hano y v z hy
      refine ⟨?_, b1, ?_, hl1, hs1⟩
      · simp only [C.shutAt, if_neg e]; exact q1
      · simp only [S.shutAt]
        split
        · rw [List.getElem?_set_ne (fun q => e q.symm), mapI_get, hb1]; simp [hn]
        · rw [List.getElem?_append_left (by rw [mapI_length]; exact hlt), mapI_get, hb1]; simp [hn]

/-! ### What is there, as an object -/
def Kn.con (K : Kn) : Con := ⟨[K.ret], K.vars, K.rows, K.objs, false, false, fun _ => True, [], fun _ _ => True, fun _ _ => .junk, fun _ _ => [], fun _ _ => [], fun _ _ => []⟩
theorem Holds.objOf (h : Holds w0 fp c s a) {n : Nat} {v : V} {u : Value} {ws : List U} {d : (fp.K.K n).t.T} (he : (fp.K.K n).con.enter s [v] = some ws) (hu : RV c v u) (h1 : u.oneCell' = true) (hok : (fp.K.K n).ok ws d) :
    ∃ f, ObjR fp.K f (.one n) (fp.K.K n).t d c.w c.F u (fun p o => ∃ q q0, ((fp.K.K n).con.sg s [v]).img (fp.K.K n).vars.length (fp.K.K n).rows.length (fp.K.K n).objs.length q q0 ∧ foot c s q0 p o) := by
  obtain ⟨g1, _, _, g2, g3, g4, g5, g6, _, g8, _, g10⟩ := Con.enter_sound h he [u] (.cons hu .nil)
  generalize hlc : (fp.K.K n).con.lendC c s ((fp.K.K n).con.sg s [v]) = lc at g5 g6 g8
  have hF : lc.F = c.F := by rw [← hlc]; funext p o; simp [Con.lendC, C.lend, Con.used, Kn.con]
  have hw : lc.w = c.w := by rw [← hlc]; rfl
  have hv := g5.vars
  have hr := g5.rows
  have hob := g5.objs
  obtain ⟨f, hf⟩ := ObjR.deep lc.ob lc.fo ((fp.K.K n).st ws).objs 0 (fun x b hb hl => by
    obtain ⟨⟨f, q⟩, _⟩ := hob x b hb hl
    refine ⟨f, ?_⟩
    rw [Nat.zero_add]
    rw [hw, hF] at q
    exact q)
  refine ⟨f + 1, ws, lc, Tp.eq_self _, ?_, ?_, hw, hF, g5.nv, g5.nr, g5.nb, ?_, h1, hv, hr, fun x b hb hl => ?_, g5.disj, fun q p o hq => ?_⟩
  · simpa [Con.kn, Kn.con, Kn.kn, Sh.kns] using g1
  · rw [Tp.cast_rfl]; exact hok
  · have : RVs lc [(fp.K.K n).retV ws] [u] := g6
    simp only [RVs] at this
    obtain ⟨u', us', e, hq, _⟩ := this
    simp only [List.cons.injEq] at e
    rw [e.1]; exact hq
  · have := hf x b hb hl
    rw [Nat.zero_add] at this
    exact ⟨this, (hob x b hb hl).2.2⟩
  · obtain ⟨q0, i0, f0⟩ := g8 q p o hq
    exact ⟨q, q0, i0, f0⟩
end
end Go.Fx
