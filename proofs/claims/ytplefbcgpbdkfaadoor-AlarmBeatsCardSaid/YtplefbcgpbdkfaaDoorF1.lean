/- All objects of a kind; what callers see. -/
import Derived.Test.YtplefbcgpbdkfaaDoorFz
set_option linter.all false
namespace Go.Fx
open Go Go.RowKit

/-! ### Kinds whose pointers lead to their first variable -/
def Kn.good (K : Kn) : Bool := (match K.ret with | .is (.lp 0 0) => true | _ => false) && (match K.vars with | .ls _ :: _ => true | _ => false)
theorem Kn.good_ret {K : Kn} (h : K.good = true) (ws : List U) : K.retV ws = .lp 0 0 := by
  unfold Kn.good at h
  simp only [Bool.and_eq_true] at h
  have h1 := h.1
  split at h1
  · rename_i e; simp only [Kn.retV, e, Sh.mk]
  · cases h1
theorem Kn.good_var {K : Kn} (h : K.good = true) (ws : List U) : ∃ l, (K.st ws).vars[0]? = some ⟨true, .ls l⟩ := by
  unfold Kn.good at h
  simp only [Bool.and_eq_true] at h
  have h2 := h.2
  split at h2
  · rename_i e
    simp only [Kn.st, e, VP.mks, VP.mk]
    exact ⟨_, rfl⟩
  · cases h2
theorem SeqR.mem {α : Type} {R : α → Value → Foot → Prop} : ∀ {l : List α} {us : List Value} {D : Foot}, SeqR R l us D → ∀ x ∈ l, ∃ u D1, R x u D1 ∧ ∀ k o, D1 k o → D k o
  | [], us, D, _, x, hx => by cases hx
  | y :: l, us, D, h, x, hx => by
    obtain ⟨u, us', D1, D2, _, h1, h2, _, h4⟩ := h
    rcases List.mem_cons.1 hx with rfl | hx
    · exact ⟨u, D1, h1, fun k o hk => h4 k o (.inl hk)⟩
    · obtain ⟨u', D', q1, q2⟩ := SeqR.mem h2 x hx
      exact ⟨u', D', q1, fun k o hk => h4 k o (.inr (q2 k o hk))⟩
/-- A pointer's place is the object's. -/
theorem ObjR.place {E : Env} {f n : Nat} (hg : (E.K n).good = true) {t : Tp} {d : t.T} {w : World} {F : Foot} {u : Value} {D : Foot} (h : ObjR E f (.one n) t d w F u D) : ∃ g o, u = .pointer (some ⟨g, o, none⟩) ∧ D g o := by
  cases f with
  | zero => exact h.elim
  | succ f =>
    obtain ⟨ws, lc, h0, h1, h2, h3, h4, h6, h7, h8, h9, h10, h11, h12, h13, h14, h15⟩ := h
    rw [Kn.good_ret hg] at h9
    simp only [RV, Nat.add_zero] at h9
    obtain ⟨l, hl⟩ := Kn.good_var hg ws
    have hp := (h11 0 _ hl rfl).pos
    exact ⟨_, _, h9.2, h15 (.v 0) _ _ ⟨_, hl, rfl, rfl, Nat.le_refl _, by simp only at hp ⊢; omega⟩⟩
theorem ptrU_inj {e e' : Int × Int} (h0 : 0 ≤ e.1 ∧ 0 ≤ e.2) (h1 : 0 ≤ e'.1 ∧ 0 ≤ e'.2) (h : ptrU e = ptrU e') : e = e' := by
  unfold ptrU at h
  rw [if_neg (by omega), if_neg (by omega)] at h
  simp only [Value.pointer.injEq, Option.some.injEq, Addr.mk.injEq, and_true] at h
  obtain ⟨a, b⟩ := e
  obtain ⟨a', b'⟩ := e'
  simp only at h h0 h1
  congr 1 <;> omega
/-- A place of its own. -/
def freshA {α : Type} (l : List ((Int × Int) × α)) (e : Int × Int) : Prop := ∀ z ∈ l, z.1 ≠ e
def getA {α : Type} (z : α) (e : Int × Int) : List ((Int × Int) × α) → α
  | [] => z
  | x :: l => if x.1 = e then x.2 else getA z e l
def hasA {α : Type} (e : Int × Int) : List ((Int × Int) × α) → Bool
  | [] => false
  | x :: l => if x.1 = e then true else hasA e l
def delA {α : Type} (e : Int × Int) : List ((Int × Int) × α) → List ((Int × Int) × α)
  | [] => []
  | x :: l => if x.1 = e then l else x :: delA e l

section
variable {P : Program} {E : Env} {w0 : World} {fp : Base} {c : C} {s t : S} {a a' : Act}
def okShut (nr nb : Nat) (k : Con) (σ : Sg) (s : S) (x : Nat) : Bool := !k.hit σ (.o x) && (List.range nr).all (fun i => !k.hit σ (.r i) || !((s.rows[i]?).any fun b => b.fix)) && (List.range nb).all fun i => !k.hit σ (.o i)
theorem SeqR.split {α : Type} {R : (Int × Int) × α → Value → Foot → Prop} {z : α} {e : Int × Int} : ∀ {l : List ((Int × Int) × α)} {us : List Value} {D : Foot}, SeqR R l us D → hasA e l = true → ∃ u us' D1 D2, R (e, getA z e l) u D1 ∧ SeqR R (delA e l) us' D2 ∧ (∀ k o, D1 k o → D2 k o → False) ∧ ∀ k o, D1 k o ∨ D2 k o → D k o
  | [], us, D, h, hh => by simp [hasA] at hh
  | y :: l, us, D, h, hh => by
    obtain ⟨u, us', D1, D2, rfl, h1, h2, h3, h4⟩ := h
    simp only [hasA] at hh
    by_cases he : y.1 = e
    · simp only [getA, delA, he, if_true]
      have : (e, y.2) = y := by rw [← he]
      rw [this]
      exact ⟨u, us', D1, D2, h1, h2, h3, h4⟩
    · rw [if_neg he] at hh
      simp only [getA, delA, if_neg he]
      obtain ⟨u', us2, D3, D4, q1, q2, q3, q4⟩ := SeqR.split (z := z) h2 hh
      refine ⟨u', u :: us2, D3, fun k o => D1 k o ∨ D4 k o, q1, ⟨u, us2, D1, D4, rfl, h1, q2, fun k o z1 z2 => h3 k o z1 (q4 k o (.inr z2)), fun k o z => z⟩, fun k o z1 z2 => ?_, fun k o z => ?_⟩
      · rcases z2 with z2 | z2
        · exact h3 k o z2 (q4 k o (.inl z1))
        · exact q3 k o z1 z2
      · rcases z with z | z | z
        · exact h4 k o (.inr (q4 k o (.inl z)))
        · exact h4 k o (.inl z)
        · exact h4 k o (.inr (q4 k o (.inr z)))
/-- An object goes to all others of its kind. -/
theorem Holds.shutA (h : Holds w0 fp c s a) {n y x : Nat} {l : List ((Int × Int) × (fp.K.K n).t.T)} {ws : List U} {d : (fp.K.K n).t.T} (hg : (fp.K.K n).good = true) (hx : s.objs[x]? = some ⟨true, .aren n, .sl (.p .pt (fp.K.K n).t), l⟩) (hy : y < s.vars.length)
    (he : (fp.K.K n).con.enter s [.lp y 0] = some ws) (hok : (fp.K.K n).ok ws d) (hxh : (fp.K.K n).con.hit ((fp.K.K n).con.sg s [.lp y 0]) (.o x) = false)
    (hanr : ∀ i v, (fp.K.K n).con.hit ((fp.K.K n).con.sg s [.lp y 0]) (.r i) = true → fp.r[i]? ≠ some (some v)) (hano : ∀ i v, (fp.K.K n).con.hit ((fp.K.K n).con.sg s [.lp y 0]) (.o i) = true → fp.o[i]? ≠ some (some v)) :
    ∃ e0 : Int × Int, (0 ≤ e0.1 ∧ 0 ≤ e0.2) ∧ freshA l e0 ∧ e0 = (((c.g y).1 : Int), ((c.g y).2 : Int)) ∧ ∃ c' : C, c'.w = c.w ∧ c.Le c' ∧ c'.g = c.g ∧ c'.nv = c.nv ∧ Holds w0 fp c' (s.shutAt (fp.K.K n).con ((fp.K.K n).con.sg s [.lp y 0]) x ⟨true, .aren n, .sl (.p .pt (fp.K.K n).t), (e0, d) :: l⟩) a := by
  obtain ⟨e0, he0⟩ : ∃ e0 : Int × Int, e0 = (((c.g y).1 : Int), ((c.g y).2 : Int)) := ⟨_, rfl⟩
  have hu : RV c (.lp y 0) (ptrU e0) := by
    simp only [RV]
    refine ⟨by rw [h.nv]; exact hy, ?_⟩
    rw [he0, ptrU, if_neg (by simp only; omega)]
    simp
  obtain ⟨f1, hf1⟩ := h.objOf he hu (ptrU_one _) hok
  obtain ⟨_, _, hmay, _⟩ := Con.enter_sound h he [ptrU e0] (.cons hu .nil)
  generalize hσ : (fp.K.K n).con.sg s [.lp y 0] = σ at hxh hanr hano hmay hf1 ⊢
  obtain ⟨⟨f2, hA⟩, hAl, hA1⟩ := h.objs x _ hx rfl
  cases f2 with
  | zero => exact hA.elim
  | succ f2 =>
    obtain ⟨us, D', hS, hD'⟩ := hA
    have hxf : ∀ k o, c.fo x k o → foot c s (.o x) k o := fun k o hk => ⟨_, hx, rfl, hk⟩
    have hdis : ∀ k o, (∃ q q0, σ.img (fp.K.K n).vars.length (fp.K.K n).rows.length (fp.K.K n).objs.length q q0 ∧ foot c s q0 k o) → c.fo x k o → False := fun k o hp hk => by
      obtain ⟨q, q0, i0, f0⟩ := hp
      have e := h.disj _ _ k o f0 (hxf k o hk)
      subst e
      have := Con.hit_img (k := (fp.K.K n).con) rfl i0
      rw [hxh] at this; cases this
    have h0 : 0 ≤ e0.1 ∧ 0 ≤ e0.2 := by rw [he0]; exact ⟨Int.natCast_nonneg _, Int.natCast_nonneg _⟩
    obtain ⟨g1, o1, eu, hpl⟩ := ObjR.place hg hf1
    refine ⟨e0, h0, fun z hz hze => ?_, he0, ?_⟩
    · obtain ⟨u2, D2, ⟨r1, r2, r3⟩, r4⟩ := hS.mem z hz
      obtain ⟨g2, o2, eu2, hpl2⟩ := ObjR.place hg r3
      rw [r1, hze, eu] at eu2
      simp only [Value.pointer.injEq, Option.some.injEq, Addr.mk.injEq, and_true] at eu2
      obtain ⟨rfl, rfl⟩ := eu2
      exact hdis _ _ hpl (hD' _ _ (r4 _ _ hpl2))
    · have hbo : ObjOK fp.K c.w c.F ⟨true, .aren n, .sl (.p .pt (fp.K.K n).t), (e0, d) :: l⟩ (c.ob x) (fun k o => (∃ q q0, σ.img (fp.K.K n).vars.length (fp.K.K n).rows.length (fp.K.K n).objs.length q q0 ∧ foot c s q0 k o) ∨ c.fo x k o) := by
        refine ⟨⟨f1 + f2 + 1, ptrU e0 :: us, _, ⟨ptrU e0, us, _, D', rfl, ⟨rfl, h0, hf1.ups (by omega)⟩, SeqR.mono (fun z u D1 _ hz => ⟨hz.1, hz.2.1, hz.2.2.ups (by omega)⟩) hS, fun k o z1 z2 => hdis k o z1 (hD' k o z2), fun k o z => z⟩, fun k o z => z.imp id (hD' k o)⟩, fun k o z => ?_, hA1⟩
        rcases z with ⟨q, q0, _, f0⟩ | z
        · exact foot_lt h f0
        · exact hAl k o z
      obtain ⟨le, hh⟩ := h.shutAt (k := (fp.K.K n).con) rfl hmay (Nat.le_of_lt (List.getElem?_eq_some_iff.1 hx).1) hxh rfl rfl (fun _ => rfl) hbo (fun p o z => z.imp id (hxf p o)) hanr hano
      exact ⟨c.shutAt x (c.ob x) _, rfl, le, rfl, rfl, hh⟩
end
end Go.Fx
