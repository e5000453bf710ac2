/- What a slice holds; appending; lengths. -/
import Derived.Test.YtplefbcgpbdkfaaDoorFf
set_option linter.all false
namespace Go.Fx
open Go Go.RowKit

theorem cutL_val {α : Type} (l : List α) (lo n : I) : cutL l lo n = (l.drop lo.val.toNat).take n.val.toNat := by
  unfold cutL
  split
  · simp [natI_val, I.val]
  · rw [natI_val, natI_val]
theorem dropL_val {α : Type} (l : List α) (lo : I) : dropL l lo = l.drop lo.val.toNat := by
  unfold dropL
  split
  · simp [I.val]
  · rw [natI_val]
section
variable {P : Program} {T : TypeId → TI} (hT : TabOK P T) {w0 : World} {fp : Base} {c : C} {s : S} {a : Act}
/-- The row that a slice is of. -/
def ofRow (r : Nat) (y : V) : Prop := y = .own r ∨ ∃ sz lo n, y = .vw r sz lo n
theorem tailOf_sound (h : Holds w0 fp c s a) {t : Tp} {y : V} {u : Value} {m : I} {ms : List t.T} (hy : RV c y u) (ht : tailOf s t y = some (m, ms)) :
    ∃ A cp news, u = .slice A ms.length cp ∧ m.val = ms.length ∧ ms.length ≤ cp ∧ cp ≤ maxLen ∧ RpL (Rp c t) ms news ∧
      (ms = [] ∨ ∃ g o, A = some ⟨g, o, none⟩ ∧ (∀ j v, news[j]? = some v → c.w.cell? ⟨g, o + j, none⟩ = some v) ∧ ∀ j, j < news.length → c.F g (o + j) ∨ ∃ r, ofRow r y ∧ foot c s (.r r) g (o + j)) := by
  unfold tailOf at ht
  split at ht
  · obtain ⟨rfl, rfl⟩ := Prod.mk.inj (Option.some.inj ht)
    simp only [RV] at hy
    subst hy
    exact ⟨none, 0, [], rfl, rfl, Nat.le_refl _, Nat.zero_le _, rfl, .inl rfl⟩
  · rename_i r
    cases hb : s.rows[r]? with
    | none => simp [hb] at ht
    | some b =>
      simp only [hb] at ht
      split at ht
      case isFalse => cases ht
      rename_i hbt
      split at ht
      case isFalse => cases ht
      rename_i hlive
      obtain ⟨rfl, rfl⟩ := Prod.mk.inj (Option.some.inj ht)
      have hr := h.rows r b hb hlive
      obtain ⟨us, ho, hl⟩ := hr.at_
      simp only [RV] at hy
      obtain ⟨_, rfl, _⟩ := hy
      have hl' := hl.cast hbt
      have hln := Tp.castL_length hbt b.l
      have hlen := hr.len
      rcases ho.at_ with ⟨e, hz⟩ | ⟨_, hz, A, cp, e, hcm⟩ | ⟨g, o, cap, e, h1, h2, hc, _⟩
      · exact ⟨none, 0, us, by rw [e, hln, hz], by rw [hln]; exact hlen, by omega, Nat.zero_le _, hl', .inl (List.eq_nil_of_length_eq_zero (by omega))⟩
      · exact ⟨A, cp, us, by rw [e, hln, hz], by rw [hln]; exact hlen, by omega, hcm, hl', .inl (List.eq_nil_of_length_eq_zero (by omega))⟩
      · refine ⟨_, cap, us, by rw [e, hln], by rw [hln]; exact hlen, by omega, h2, hl', .inr ⟨g, o, rfl, fun j v hv => hc.get hv, fun j hj => .inr ⟨r, .inl rfl, b, hb, hlive, ?_⟩⟩⟩
        rw [e]
        refine ⟨rfl, .inr ⟨Nat.le_add_right _ _, ?_⟩⟩
        rw [ho.len] at hj
        simpa using hj
  · rename_i r sz lo n
    cases hb : s.rows[r]? with
    | none => simp [hb] at ht
    | some b =>
      simp only [hb] at ht
      split at ht
      case isFalse => cases ht
      rename_i hbt
      split at ht
      case isFalse => cases ht
      rename_i hcond
      simp only [Bool.and_eq_true, beq_iff_eq] at hcond
      obtain ⟨hlive, rfl⟩ := hcond
      obtain ⟨rfl, rfl⟩ := Prod.mk.inj (Option.some.inj ht)
      have hr := h.rows r b hb hlive
      obtain ⟨us, ho, hl⟩ := hr.at_
      simp only [RV] at hy
      obtain ⟨_, A, mm, cap, A', cp, hrr, hA, l0, n0, hm, rfl, hcp, hcpm, hA'⟩ := hy
      have hl' := hl.cast hbt
      have hln := Tp.castL_length hbt b.l
      have htt : t.size = b.t.size := by rw [Tp.of_eq hbt]
      have hmm : mm = b.l.length := by
        rcases ho.at_ with ⟨e, hz⟩ | ⟨_, hz, A, cp, e, hcm⟩ | ⟨g, o, cap, e, h1, h2, hc, _⟩ <;> (rw [hrr] at e; simp only [Value.slice.injEq] at e; omega)
      subst hmm
      rw [cutL_val]
      have hlc : (((Tp.castL hbt b.l).drop lo.val.toNat).take n.val.toNat).length = n.val.toNat := by simp [hln]; omega
      have hR := (hl'.drop (fun _ _ h => h.length) lo.val.toNat).take (fun _ _ h => h.length) n.val.toNat
      refine ⟨A', cp, _, by rw [hlc], by rw [hlc]; omega, by rw [hlc]; exact hcp, hcpm, hR, ?_⟩
      by_cases hz : n.val = 0
      · left
        exact List.eq_nil_of_length_eq_zero (by rw [hlc]; omega)
      · right
        rcases ho.at_ with ⟨e, hz'⟩ | ⟨_, hz', _⟩ | ⟨g, o, cap', e, h1, h2, hc, _⟩
        · omega
        · omega
        · rw [hrr] at e
          simp only [Value.slice.injEq] at e
          obtain ⟨rfl, _, rfl⟩ := e
          have hA2 := hA'.1 (.inl (by omega))
          have hul := ho.len
          have hle : (lo.val.toNat + n.val.toNat) * b.t.size ≤ b.l.length * b.t.size := Nat.mul_le_mul_right _ hm
          rw [Nat.add_mul] at hle
          have hk : ∀ j, j < n.val.toNat * b.t.size → ((us.drop (lo.val.toNat * t.size)).take (n.val.toNat * t.size))[j]? = us[lo.val.toNat * b.t.size + j]? := fun j hj => by
            rw [htt, List.getElem?_take, if_pos hj, List.getElem?_drop]
          have hnl : ((us.drop (lo.val.toNat * t.size)).take (n.val.toNat * t.size)).length = n.val.toNat * b.t.size := by
            rw [htt]; simp; omega
          refine ⟨g, o + lo.val.toNat * b.t.size, by rw [hA2]; simp [add_at], fun j v hv => ?_, fun j hj => .inr ⟨r, .inr ⟨_, _, _, rfl⟩, b, hb, hlive, ?_⟩⟩
          · have hj := (List.getElem?_eq_some_iff.1 hv).1
            rw [hnl] at hj
            rw [hk j hj] at hv
            rw [Nat.add_assoc]
            exact hc.get hv
          · rw [hnl] at hj
            rw [hrr]
            exact ⟨rfl, .inr ⟨by simp only; omega, by simp only; omega⟩⟩
  · rename_i q n l
    split at ht
    case isFalse => cases ht
    rename_i hbt
    obtain ⟨rfl, rfl⟩ := Prod.mk.inj (Option.some.inj ht)
    simp only [RV, Rp, List.cons.injEq, and_true] at hy
    obtain ⟨hnl, A, cp, rfl, h1, h2, h3⟩ := hy
    have hln := Tp.castL_length hbt l
    rcases h3 with rfl | ⟨g, o, vs, rfl, hs, hl⟩
    · have he : Tp.castL hbt [] = [] := List.eq_nil_of_length_eq_zero (by rw [hln]; rfl)
      exact ⟨A, cp, [], by rw [hln], by rw [hln]; exact hnl, by rw [hln]; exact h1, h2, by rw [he]; rfl, .inl he⟩
    · exact ⟨_, cp, vs, by rw [hln], by rw [hln]; exact hnl, by rw [hln]; exact h1, h2, RpL.cast hbt hl, .inr ⟨g, o, rfl, hs.cell, fun j hj => .inl (hs.lent j hj)⟩⟩
  · cases ht

theorem needRoom_ok {m : I} {by_ : Nat} {ns : List Need} (h : needsOK (needRoom m by_ ns)) : (Need.room m.val by_).ok ∧ needsOK ns := by
  unfold needRoom at h
  split at h
  · split at h
    · rename_i hc; exact ⟨hc, h⟩
    · exact h
  · exact h
theorem RowAt.nil_owns (w : World) (e : TypeId) (sz : Nat) : w.ownsRow 0 e sz (.slice none 0 0) 0 [] := World.ownsRow_nil _ _ _ _
theorem rowF_own {v : Value} {sz k o : Nat} (h : rowF v false sz k o) : v.ownBlock = some k := by
  unfold rowF at h
  split at h
  · simp [Value.ownBlock, h.1]
  · exact h.elim
theorem own_rowF {v : Value} {sz k : Nat} (h : v.ownBlock = some k) (o : Nat) : rowF v false sz k o := by
  unfold Value.ownBlock at h
  split at h
  · rename_i ad _ _
    obtain rfl := Option.some.inj h
    exact ⟨rfl, .inl rfl⟩
  · cases h
theorem ownsRow_take {w : World} {e : TypeId} {sz n k m cap : Nat} {A : Option Addr} {xs : List Value} (h : w.ownsRow 0 e sz (.slice A m cap) n xs) (hk : k ≤ n) : w.ownsRow 0 e sz (.slice A k cap) k (xs.take (k * sz)) := by
  have hle : k * sz ≤ n * sz := Nat.mul_le_mul_right _ hk
  refine ⟨by rw [List.length_take, h.1]; omega, ?_⟩
  rcases h.2 with ⟨hv, rfl⟩ | ⟨g, cap', cur, hv, hbg, hg, hnc, hcm, hcs, htake⟩
  · obtain rfl : k = 0 := by omega
    simp only [Value.slice.injEq] at hv
    obtain ⟨rfl, _, rfl⟩ := hv
    exact .inl ⟨rfl, rfl⟩
  · simp only [Value.slice.injEq] at hv
    obtain ⟨rfl, _, rfl⟩ := hv
    refine .inr ⟨g, cap, cur, rfl, hbg, hg, by omega, hcm, hcs, ?_⟩
    rw [← htake, List.take_take]
    congr 1
    omega
include hT
theorem append_sound (h : Holds w0 fp c s a) {t ty : TypeId} {x y v : V} {u u' : Value} {s' : S} (hx : RV c x u) (hy : RV c y u') (hop : opAppend T s t x y = .ok v s') (hn : needsOK s'.needs) :
    Tells P w0 fp c s s' a (.other (readsV x)) (fun w => (Builtin.append_ #[t, t] ty #[u, u']).run P w) v := by
  have hd := hT.desc t
  unfold opAppend at hop
  split at hop
  case h_2 => cases hop
  rename_i e hdt
  rw [hdt] at hd
  have hd1 : P.underlying t = some (.slice e) := hd
  split at hop
  case h_2 => cases hop
  rename_i q hq
  split at hop
  case isFalse => cases hop
  rename_i hcond
  simp only [Bool.and_eq_true, decide_eq_true_eq, beq_iff_eq] at hcond
  obtain ⟨⟨hok, hb0⟩, hqs⟩ := hcond
  have hs0 : 0 < (T e).size := by rw [← hqs]; exact q.size_pos
  obtain ⟨i, hi, hz, hsi, hbi⟩ := hT.info hok
  have hzs := (hT.ok e hok).zsz
  have bound : ∀ q : I, (Need.room q.val (T e).bytes).ok → q.val.toNat ≤ maxLen ∧ q.val.toNat * (T e).bytes ≤ 140737488355328 := fun q hq => by
    obtain ⟨q0, q1⟩ := hq
    have e1 : ((q.val.toNat * (T e).bytes : Nat) : Int) = q.val * (T e).bytes := by rw [Int.natCast_mul, Int.toNat_of_nonneg q0]
    have h2 : q.val.toNat * (T e).bytes ≤ 140737488355328 := by omega
    have h3 : q.val.toNat ≤ q.val.toNat * (T e).bytes := Nat.le_mul_of_pos_right _ hb0
    exact ⟨by unfold maxLen; omega, h2⟩
  split at hop
  · -- onto nil
    split at hop
    case h_2 => cases hop
    rename_i m ms htail
    obtain ⟨A, cp, news, rfl, hm, hmc, hcm, hR, hnews⟩ := tailOf_sound h hy htail
    have hnl := hR.len
    rw [hqs] at hnl
    have hu : u = .slice none 0 0 := by simpa only [RV] using hx
    subst hu
    obtain ⟨rfl, rfl⟩ := R.ok.inj hop
    obtain ⟨b1, b2⟩ := bound m (needRoom_ok hn).1
    have hmn : m.val.toNat = ms.length := by omega
    rw [hmn] at b1 b2
    obtain ⟨v', w', hr, ho, hg, h1, hblk, hshape, hdrawn⟩ := append_own2 (P := P) c.w t ty e i (T e).zero (T e).size (T e).bytes hd1 hi hz hsi hbi hzs hs0 (.slice none 0 0) 0 [] (World.ownsRow_nil _ _ _ _) A ms.length cp news hnl
      (fun hA => by rcases hnews with rfl | ⟨g, o, e, _⟩; · rfl
                    · rw [hA] at e; cases e)
      (fun ad had j v hj => by
        rcases hnews with rfl | ⟨g, o, e, hc, _⟩
        · simp only [RpL] at hR; subst hR; simp at hj
        · rw [had] at e; obtain rfl := Option.some.inj e; rw [add_at]; exact hc j v hj)
      hR.one (by omega) (by simpa using b2)
    have hg' : c.w.grownBy w' none := hg
    have hk : Keeps c.w w' (fun _ _ => False) := (Keeps.grown hg' hshape hdrawn).mono (fun k o h => by cases h)
    rw [Nat.zero_add, List.nil_append] at ho
    have hat : RowAt w' false e q.size v' ms.length news := by rw [hqs]; exact RowAt.of_owns ho
    obtain ⟨le, hh⟩ := (h.needs (needRoom m (T e).bytes s.needs)).newRow (⟨true, false, e, q, m, ms⟩ : Row) hk hat hm hR (fun k o hf => by
      rcases hblk k (rowF_own hf) with p | p
      · cases p
      · exact p)
    refine ⟨v', _, hr, hh, ?_, (fun _ h => by cases h), StepOK.newRow h hk _⟩
    simp only [RV, C.newRow]
    exact ⟨by rw [h.nr]; omega, by rw [if_pos h.nr.symm], by rw [if_pos h.nr.symm]; exact h1⟩
  · -- onto a row of one's own
    rename_i r
    cases hb : s.rows[r]? with
    | none => simp [hb] at hop
    | some b =>
      simp only [hb] at hop
      split at hop
      case isFalse => cases hop
      rename_i hcond
      simp only [Bool.and_eq_true, beq_iff_eq, Bool.not_eq_true'] at hcond
      obtain ⟨⟨⟨⟨hlive, hfix⟩, rfl⟩, hsz⟩, hnlk⟩ := hcond
      have hnlk : fp.lk.has (.r r) = false := by rw [← h.lk]; exact hnlk
      split at hop
      case h_2 => cases hop
      rename_i m ms htail
      obtain ⟨A, cp, news, rfl, hm, hmc, hcm, hR, hnews⟩ := tailOf_sound h hy htail
      have hnl := hR.len
      rw [hsz] at hnl
      obtain ⟨rfl, rfl⟩ := R.ok.inj hop
      have hro := h.rows r b hb hlive
      obtain ⟨us, ho, hl⟩ := hro.at_
      have hlen := hro.len
      simp only [RV] at hx
      obtain ⟨hlt, rfl, _⟩ := hx
      obtain ⟨b1, b2⟩ := bound _ (needRoom_ok hn).1
      rw [addI_val] at b1 b2
      have hadd : (b.n.val + m.val).toNat = b.l.length + ms.length := by omega
      rw [hadd] at b1 b2
      rw [hsz, hfix] at ho
      obtain ⟨v', w', hrun, ho', hg, h1, hblk, hshape, hdrawn⟩ := append_own2 (P := P) c.w t ty b.e i (T b.e).zero (T b.e).size (T b.e).bytes hd1 hi hz hsi hbi hzs hs0 (c.r r) b.l.length us ho.owns A ms.length cp news hnl
        (fun hA => by rcases hnews with rfl | ⟨g, o, e, _⟩; · rfl
                      · rw [hA] at e; cases e)
        (fun ad had j v hj => by
          rcases hnews with rfl | ⟨g, o, e, hc, _⟩
          · simp only [RpL] at hR; subst hR; simp at hj
          · rw [had] at e; obtain rfl := Option.some.inj e; rw [add_at]; exact hc j v hj)
        hR.one b1 b2
      have hk : Keeps c.w w' (foot c s (.r r)) := (Keeps.grown hg hshape hdrawn).mono (fun k o hf => ⟨b, hb, hlive, by rw [hfix]; exact own_rowF hf o⟩)
      have hat : RowAt w' b.fix b.e b.t.size v' (b.l ++ ms).length (us ++ news) := by rw [hfix, hsz, List.length_append]; exact RowAt.of_owns ho'
      have hh := (h.needs (needRoom (addI b.n m) (T b.e).bytes s.needs)).regrow hnlk (b' := { b with n := addI b.n m, l := b.l ++ ms }) hb hlive hfix hlive (v := v') (w' := w') (us := us ++ news) hk hat (by simp only [addI_val, List.length_append]; omega) (hl.append hR)
        (fun k o hf => by
          simp only [hfix] at hf
          rcases hblk k (rowF_own hf) with p | p
          · exact .inl ⟨b, hb, hlive, by rw [hfix]; exact own_rowF p o⟩
          · exact .inr p)
      refine ⟨v', _, hrun, hh, ?_, (fun _ h => by cases h), StepOK.regrow h hk⟩
      simp only [RV, C.regrow]
      exact ⟨hlt, by simp, by simpa using h1⟩
  · -- onto a part of a row of one's own
    rename_i r sz lo n
    cases hb : s.rows[r]? with
    | none => simp [hb] at hop
    | some b =>
      simp only [hb] at hop
      split at hop
      case isFalse => cases hop
      rename_i hcond
      simp only [Bool.and_eq_true, beq_iff_eq, Bool.not_eq_true'] at hcond
      obtain ⟨⟨⟨⟨⟨⟨hlo, hlive⟩, hfix⟩, rfl⟩, hsz⟩, rfl⟩, hnlk⟩ := hcond
      have hlo0 : lo.val = 0 := by
        cases lo with
        | l x => simpa [zeroI, I.val] using hlo
        | s x => simp [zeroI] at hlo
      have hnlk : fp.lk.has (.r r) = false := by rw [← h.lk]; exact hnlk
      split at hop
      case h_2 => cases hop
      rename_i m ms htail
      obtain ⟨A, cp, news, rfl, hm, hmc, hcm, hR, hnews⟩ := tailOf_sound h hy htail
      have hnl := hR.len
      rw [hsz] at hnl
      obtain ⟨rfl, rfl⟩ := R.ok.inj hop
      have hro := h.rows r b hb hlive
      obtain ⟨us, ho, hl⟩ := hro.at_
      have hlen := hro.len
      simp only [RV] at hx
      obtain ⟨hlt, A0, m0, cap0, A', cp', hrr, hA0, _, hn0, hle, rfl, hncp, hcp', hA', hcap⟩ := hx
      have hA' := hA' (.inr hlo0)
      rw [hlo0] at hle hcap hA'
      obtain ⟨b1, b2⟩ := bound _ (needRoom_ok hn).1
      rw [addI_val] at b1 b2
      rw [hsz, hfix] at ho
      have hm0 : m0 = b.l.length ∧ A' = A0 := by
        rcases ho.at_ with ⟨e, hz⟩ | ⟨q, _⟩ | ⟨g, o, cap, e, _⟩
        · rw [hrr] at e
          simp only [Value.slice.injEq] at e
          obtain ⟨rfl, rfl, rfl⟩ := e
          exact ⟨hz.symm, hA'⟩
        · cases q
        · rw [hrr] at e
          simp only [Value.slice.injEq] at e
          obtain ⟨rfl, rfl, rfl⟩ := e
          exact ⟨rfl, by rw [hA']; simp [Addr.add]⟩
      obtain ⟨rfl, rfl⟩ := hm0
      have hcap : cp' = cap0 := by simpa using hcap
      subst hcap
      have hown := ho.owns
      rw [hrr] at hown
      have hnle : n.val.toNat ≤ b.l.length := by simpa using hle
      have hownk := ownsRow_take hown hnle
      have hadd : (n.val + m.val).toNat = n.val.toNat + ms.length := by omega
      rw [hadd] at b1 b2
      have hblk0 : (Value.slice A' n.val.toNat cp').ownBlock = (c.r r).ownBlock := by rw [hrr]; cases A' <;> rfl
      obtain ⟨v', w', hrun, ho', hg, h1, hblk, hshape, hdrawn⟩ := append_own2 (P := P) c.w t ty b.e i (T b.e).zero (T b.e).size (T b.e).bytes hd1 hi hz hsi hbi hzs hs0 _ _ _ hownk A ms.length cp news hnl
        (fun hA => by rcases hnews with rfl | ⟨g, o, e, _⟩; · rfl
                      · rw [hA] at e; cases e)
        (fun ad had j v hj => by
          rcases hnews with rfl | ⟨g, o, e, hc, _⟩
          · simp only [RpL] at hR; subst hR; simp at hj
          · rw [had] at e; obtain rfl := Option.some.inj e; rw [add_at]; exact hc j v hj)
        hR.one b1 b2
      have hk : Keeps c.w w' (foot c s (.r r)) := (Keeps.grown hg hshape hdrawn).mono (fun k o hf => ⟨b, hb, hlive, by rw [hfix]; exact own_rowF (hblk0 ▸ hf) o⟩)
      have hlt' : (b.l.take (natI n) ++ ms).length = n.val.toNat + ms.length := by rw [List.length_append, List.length_take, natI_val]; omega
      have hat : RowAt w' b.fix b.e b.t.size v' (b.l.take (natI n) ++ ms).length (us.take (n.val.toNat * (T b.e).size) ++ news) := by rw [hfix, hsz, hlt']; exact RowAt.of_owns ho'
      have hh := (h.needs (needRoom (addI n m) (T b.e).bytes s.needs)).regrow hnlk (b' := { b with n := addI n m, l := b.l.take (natI n) ++ ms }) hb hlive hfix hlive (v := v') (w' := w') (us := us.take (n.val.toNat * (T b.e).size) ++ news) hk hat (by simp only [addI_val]; rw [hlt']; omega)
        (RpL.append (by rw [natI_val, ← hsz]; exact hl.take (fun _ _ h => h.length) _) hR)
        (fun k o hf => by
          simp only [hfix] at hf
          rcases hblk k (rowF_own hf) with p | p
          · exact .inl ⟨b, hb, hlive, by rw [hfix]; exact own_rowF (hblk0 ▸ p) o⟩
          · exact .inr p)
      refine ⟨v', _, hrun, hh, ?_, (fun _ h => by cases h), StepOK.regrow h hk⟩
      simp only [RV, C.regrow]
      exact ⟨hlt, by simp, by simpa using h1⟩
  · cases hop

theorem len_sound (h : Holds w0 fp c s a) {t ty : TypeId} {x v : V} {u : Value} {s' : S} (hd : ∃ e, (T t).d = .slice e) (hx : RV c x u) (hop : opLen s x = .ok v s') :
    s' = s ∧ Tells P w0 fp c s s a (.free []) (fun w => (Builtin.len_ #[t] ty #[u]).run P w) v := by
  have hdt := hT.desc t
  obtain ⟨e, he⟩ := hd
  rw [he] at hdt
  have hd1 : P.underlying t = some (.slice e) := hdt
  unfold opLen at hop
  split at hop
  · rename_i q n l
    obtain ⟨rfl, rfl⟩ := R.ok.inj hop
    simp only [RV, Rp, List.cons.injEq, and_true] at hx
    obtain ⟨hnl, A, cp, rfl, _⟩ := hx
    refine ⟨rfl, h.still (u := .int .i64 n.val) ?_ (by simp only [RV])⟩
    intro w' _
    simp [Builtin.len_, run_underlying hd1, goInt, hnl]
  · rename_i r
    cases hb : s.rows[r]? with
    | none => simp [hb] at hop
    | some b =>
      simp only [hb] at hop
      split at hop
      case isFalse => cases hop
      rename_i hlive
      obtain ⟨rfl, rfl⟩ := R.ok.inj hop
      have hr := h.rows r b hb hlive
      obtain ⟨us, ho, _⟩ := hr.at_
      have hlen := hr.len
      simp only [RV] at hx
      obtain ⟨_, rfl, _⟩ := hx
      refine ⟨rfl, h.still (u := .int .i64 b.n.val) ?_ (by simp only [RV])⟩
      intro w' _
      rcases ho.at_ with ⟨hv, hz⟩ | ⟨_, hz, A, cp, hv, _⟩ | ⟨g, o, cap, hv, _⟩
      · rw [hv, hlen, hz]; simp [Builtin.len_, run_underlying hd1, goInt]
      · rw [hv, hlen, hz]; simp [Builtin.len_, run_underlying hd1, goInt]
      · rw [hv, hlen]; simp [Builtin.len_, run_underlying hd1, goInt]
  · rename_i r sz lo n
    obtain ⟨rfl, rfl⟩ := R.ok.inj hop
    simp only [RV] at hx
    obtain ⟨_, A, mm, cap, A', cp, hrr, hA, l0, n0, hm, rfl, hcp, hcpm, hA'⟩ := hx
    refine ⟨rfl, h.still (u := .int .i64 n.val) ?_ (by simp only [RV])⟩
    intro w' _
    simp [Builtin.len_, run_underlying hd1, goInt, Int.toNat_of_nonneg n0]
  · obtain ⟨rfl, rfl⟩ := R.ok.inj hop
    simp only [RV] at hx
    subst hx
    refine ⟨rfl, h.still (u := .int .i64 0) ?_ (by simp only [RV, I.val])⟩
    intro w' _
    simp [Builtin.len_, run_underlying hd1, goInt]
  · cases hop
end
end Go.Fx
