/- What appending does. -/
import Derived.Test.YtkhbodngiodklaaDxU
set_option linter.all false
namespace Go.Dx
open Go Go.RowKit

/-- 'append' onto a row of the call's own, from whatever slice: where the row then lies. -/
theorem append_own2 {P : Program} (w : World) (t ty e : TypeId) (i : TypeInfo) (z : Value) (size bytes : Nat) (ht : P.underlying t = some (.slice e)) (hi : P.info? e = some i) (hz : i.zero = some z)
    (hsize : i.size = size) (hby : i.bytes = bytes) (hzs : z.cells.size = size) (hsz : 0 < size)
    (v : Value) (n : Nat) (xs : List Value) (hown : w.ownsRow 0 e size v n xs)
    (A : Option Addr) (m c : Nat) (news : List Value) (hl : news.length = m * size) (hA : A = none → m = 0) (hnews : ∀ a, A = some a → ∀ j u, news[j]? = some u → w.cell? (a.add j) = some u) (h1 : ∀ u ∈ news, u.oneCell' = true)
    (h63 : n + m ≤ maxLen) (hbytes : (n + m) * bytes ≤ 140737488355328) :
    ∃ v' w', (Builtin.append_ #[t, t] ty #[v, .slice A m c]).run P w = .ok v' w' ∧ w'.ownsRow 0 e size v' (n + m) (xs ++ news) ∧ w.grownBy w' v.ownBlock ∧ v'.oneCell' = true ∧
      ∀ k, v'.ownBlock = some k → v.ownBlock = some k ∨ w.heap.size ≤ k := by
  cases A with
  | none =>
    obtain rfl := hA rfl
    have hnil : news = [] := List.eq_nil_of_length_eq_zero (by simpa using hl)
    subst hnil
    have hself : w.grownBy w v.ownBlock := ⟨rfl, rfl, rfl, Nat.le_refl _, fun _ _ _ => rfl⟩
    rcases hown.2 with ⟨rfl, rfl⟩ | ⟨g, cap, cur, rfl, hbg, hg, hnc, hcm, hcs, htake⟩
    · refine ⟨.slice none 0 0, w, ?_, by simpa using hown, hself, rfl, fun k hk => .inl hk⟩
      simp [Builtin.append_, run_underlying ht, sizeOf, typeInfo, hi, Builtin.lenOf, Builtin.firstCells]
    · refine ⟨.slice (some ⟨g, 0, none⟩) n cap, w, ?_, by simpa using hown, hself, rfl, fun k hk => .inl hk⟩
      simp [Builtin.append_, run_underlying ht, sizeOf, typeInfo, hi, Builtin.lenOf, Builtin.firstCells, hnc, storeCells]
  | some a =>
    have hnews' := hnews a rfl
    rcases hown.2 with ⟨rfl, rfl⟩ | ⟨g, cap, cur, rfl, hbg, hg, hnc, hcm, hcs, htake⟩
    · have hx : xs = [] := List.eq_nil_of_length_eq_zero (by simpa using hown.1)
      subst hx
      obtain ⟨v', w', h, ho, hgr, hnil⟩ := run_append_own (P := P) w w.heap.size t ty e i z size bytes ht hi hz hsize hby hzs hsz (.slice none 0 0) 0 [] (World.ownsRow_nil _ _ _ _) a m c news hl hnews' h1 h63 hbytes (Nat.le_refl _)
      refine ⟨v', w', h, ownsRow_base0 ho, hgr, ?_, fun k hk => .inr (ho.lt k hk).1⟩
      rcases ho.2 with ⟨rfl, _⟩ | ⟨_, _, _, rfl, _⟩ <;> rfl
    · by_cases hroom : n + m ≤ cap
      · subst hsize
        have hlen : (xs ++ news).length = (n + m) * i.size := by rw [List.length_append, hown.1, hl, Nat.add_mul]
        have hfit : n * i.size + news.length ≤ cur.size := by rw [hl, hcs, ← Nat.add_mul]; exact Nat.mul_le_mul_right _ hroom
        have hr := run_append_room (P := P) w t ty e i ht hi g n cap cur hg a m c news hl hnews' h1 hroom hfit
        refine ⟨_, _, hr, ⟨hlen, .inr ⟨g, cap, _, rfl, Nat.zero_le _, setRow_heap w g cur _ e _ hg, hroom, hcm, ?_, ?_⟩⟩, ⟨rfl, rfl, rfl, by simp, fun k _ hk => setRow_other w g k _ (fun e => hk (by simp [Value.ownBlock, e]))⟩, rfl, fun k hk => .inl hk⟩
        · simp only [List.size_toArray, List.length_append, List.length_take, List.length_drop, Array.length_toList]
          omega
        · rw [htake, ← hlen]
          exact List.take_left
      · have hown' : ∀ j u, xs[j]? = some u → w.cell? ((⟨g, 0, none⟩ : Addr).add j) = some u := hown.cells (g := g) rfl
        subst hsize
        subst hby
        have hr := run_append_grow (P := P) w t ty e i z ht hi hz ⟨g, 0, none⟩ n cap xs hown.1 hown' a m c news hl hnews' (by omega) (by simp only [maxLen] at h63; omega) (growslice_fits (by omega) hbytes)
        have hge := grownCap_ge w (n + m) cap e
        have hlen : (xs ++ news).length = (n + m) * i.size := by rw [List.length_append, hown.1, hl, Nat.add_mul]
        refine ⟨_, _, hr, ⟨hlen, .inr ⟨w.heap.size, _, _, rfl, Nat.zero_le _, heap_alloc_new w.drew _, hge, grownCap_le_maxLen w (n + m) cap e h63, ?_, ?_⟩⟩, ⟨rfl, rfl, rfl, by simp, fun k hk _ => heap_alloc_old w.drew _ hk⟩, rfl, fun k hk => .inr ?_⟩
        · simp only [Array.size_append, List.size_toArray, size_zeroCells, hzs, hown.1, hl, ← Nat.add_mul]
          congr 1
          omega
        · simp only [Array.toList_append, List.append_assoc]
          rw [← List.append_assoc, ← hlen]
          exact List.take_left
        · simp [Value.ownBlock] at hk
          omega

mutual
theorem RV.kill {c c' : C} (h0 : c.Le0 c') (r : Nat) (hr : ∀ x, x < c.nr → x ≠ r → c'.r x = c.r x) (hn : c.nr ≤ c'.nr) : ∀ (v : V) (u : Value), RV c v u → RV c' (Dx.kill r v) u
  | .i k n, u, h => by simp only [Dx.kill, RV] at h ⊢; exact RC.le h0 _ _ h
  | .b x, u, h => by simp only [Dx.kill, RV] at h ⊢; exact RC.le h0 _ _ h
  | .v v, u, h => by simp only [Dx.kill, RV] at h ⊢; exact RC.le h0 _ _ h
  | .lp x o, u, h => by simp only [Dx.kill, RV] at h ⊢; exact RC.le h0 _ _ h
  | .ro n sz cs, u, h => by simp only [Dx.kill, RV] at h ⊢; exact RC.le h0 _ _ h
  | .rp n sz cs i j, u, h => by simp only [Dx.kill, RV] at h ⊢; exact RC.le h0 _ _ h
  | .own r', u, h => by
    simp only [Dx.kill]
    by_cases e : r' = r
    · simp [e, RV]
    · simp only [beq_iff_eq, e, if_false, RV] at h ⊢
      rw [hr r' h.1 e]
      exact ⟨Nat.lt_of_lt_of_le h.1 hn, h.2⟩
  | .vw r' sz lo n, u, h => by
    simp only [Dx.kill]
    by_cases e : r' = r
    · simp [e, RV]
    · simp only [beq_iff_eq, e, if_false, RV] at h ⊢
      rw [hr r' h.1 e]
      exact ⟨Nat.lt_of_lt_of_le h.1 hn, h.2⟩
  | .fn _ l, u, h => by
    simp only [Dx.kill, RV] at h ⊢
    obtain ⟨us, e, hq⟩ := h
    exact ⟨us, e, RVs.kill h0 r hr hn l _ hq⟩
  | .op r' sz i j, u, h => by
    simp only [Dx.kill]
    by_cases e : r' = r
    · simp [e, RV]
    · simp only [beq_iff_eq, e, if_false, RV] at h ⊢
      rw [hr r' h.1 e]
      exact ⟨Nat.lt_of_lt_of_le h.1 hn, h.2⟩
  | .agg l, u, h => by
    simp only [Dx.kill, RV] at h ⊢
    obtain ⟨us, e, hq⟩ := h
    exact ⟨us, e, RVs.kill h0 r hr hn l _ hq⟩
  | .tup l, u, h => by
    simp only [Dx.kill, RV] at h ⊢
    obtain ⟨us, e, hq⟩ := h
    exact ⟨us, e, RVs.kill h0 r hr hn l _ hq⟩
  | .junk, u, h => by simp [Dx.kill, RV]
theorem RVs.kill {c c' : C} (h0 : c.Le0 c') (r : Nat) (hr : ∀ x, x < c.nr → x ≠ r → c'.r x = c.r x) (hn : c.nr ≤ c'.nr) : ∀ (vs : List V) (us : List Value), RVs c vs us → RVs c' (Dx.kills r vs) us
  | [], us, h => by simpa [Dx.kills, RVs] using h
  | v :: vs, us, h => by
    simp only [Dx.kills, RVs] at h ⊢
    obtain ⟨u, us', e, h1, h2⟩ := h
    exact ⟨u, us', e, RV.kill h0 r hr hn v u h1, RVs.kill h0 r hr hn vs us' h2⟩
end

section
variable {P : Program} {T : TypeId → TI} (hT : TabOK P T) {w0 : World} {fp : Nat → Prop} {c : C} {s : S} {a : Act}

def C.regrow (c : C) (r : Nat) (v : Value) (w' : World) : C := { c with w := w', r := fun x => if x = r then v else c.r x }
theorem Holds.regrow (h : Holds w0 fp c s a) {r : Nat} {b b' : Row} (hb : s.rows[r]? = some b) (hlive : b.live = true) (hb' : b'.live = true) {v : Value} {w' : World} {us : List Value} (hg : c.w.grownBy w' (c.r r).ownBlock)
    (ho : w'.ownsRow 0 b'.e b'.sz v b'.n.val.toNat us) (hn : 0 ≤ b'.n.val) (hc : RCs c (b'.ct.cells b'.n.val.toNat b'.sz) us) (hone : ∀ u ∈ us, u.oneCell' = true)
    (hblk : ∀ k, v.ownBlock = some k → (c.r r).ownBlock = some k ∨ c.w.heap.size ≤ k) :
    Holds w0 fp (c.regrow r v w') { s with tmps := kills r s.tmps, vars := s.vars.map fun v => { v with cells := kills r v.cells }, rows := s.rows.set r b' } a := by
  have hr := h.rows r b hb hlive
  have hlt := h.row_lt hb
  have old : ∀ k, k < c.w.heap.size → some k ≠ (c.r r).ownBlock → w'.heap[k]? = c.w.heap[k]? := hg.block
  have le0 : c.Le0 (c.regrow r v w') :=
    { F := fun _ h => h, cell := fun ad ha => World.cell?_of_block (old _ (h.flt _ ha) (fun e => (hr.mine _ e.symm).2.1 ha)), g := fun _ _ => rfl, nv := Nat.le_refl _ }
  have rold : ∀ x, x < c.nr → x ≠ r → (c.regrow r v w').r x = c.r x := fun x _ hx => by simp [C.regrow, hx]
  have rnew : (c.regrow r v w').r r = v := by simp [C.regrow]
  have nrle : c.nr ≤ (c.regrow r v w').nr := Nat.le_refl _
  refine { kept := fun k hk hf => ?_, size := Nat.le_trans h.size hg.size, os := hg.os.trans h.os, tape := hg.tape.trans h.tape, output := hg.output.trans h.output, tmps := RVs.kill le0 r rold nrle _ _ h.tmps, defers := h.defers, nv := by simp [C.regrow, h.nv], nr := by simp [C.regrow, h.nr], vars := ?_, vdist := h.vdist, rows := ?_, rdist := ?_, flt := fun b hb => Nat.lt_of_lt_of_le (h.flt b hb) hg.size }
  · refine (old k (Nat.lt_of_lt_of_le hk h.size) (fun e => ?_)).trans (h.kept k hk hf)
    rcases (hr.mine k e.symm).1 with q | q
    · omega
    · exact hf q
  · intro x bx hx
    simp only [List.getElem?_map, Option.map_eq_some_iff] at hx
    obtain ⟨b0, hb0, rfl⟩ := hx
    have hv := h.vars x b0 hb0
    obtain ⟨us', hu, hq⟩ := hv.at_
    refine ⟨⟨us', (old _ (h.gblt x (h.var_lt hb0)) (fun e => (hr.mine _ e.symm).2.2 x (h.var_lt hb0) rfl)).trans hu, RVs.kill le0 r rold nrle _ _ hq⟩, hv.mine, hv.notF⟩
  · intro r' b1 hb1 hl1
    by_cases e : r' = r
    · subst e
      rw [List.getElem?_set_self (by rw [← h.nr]; exact hlt)] at hb1
      obtain rfl := Option.some.inj hb1
      refine ⟨⟨us, by rw [rnew]; exact ho, RCs.le le0 _ _ hc, hone⟩, hn, fun k hk => ?_⟩
      rw [rnew] at hk
      rcases hblk k hk with q | q
      · exact hr.mine k q
      · exact ⟨.inl (Nat.le_trans h.size q), fun hf => by have := h.flt k hf; omega, fun x hx => by have := h.gblt x hx; show c.g x ≠ k; omega⟩
    · rw [List.getElem?_set_ne (Ne.symm e)] at hb1
      have hr1 := h.rows r' b1 hb1 hl1
      obtain ⟨us', ho', hc', h1'⟩ := hr1.at_
      have hrr := rold r' (h.row_lt hb1) e
      have hkeep : (c.r r').ownBlock = none ∨ (c.r r').ownBlock ≠ (c.r r).ownBlock := by
        cases hbk : (c.r r').ownBlock with
        | none => exact .inl rfl
        | some k => exact .inr (fun e2 => h.rdist r' r b1 b hb1 hb hl1 hlive e k hbk e2.symm)
      refine ⟨⟨us', by rw [hrr]; exact ho'.kept hg hkeep, RCs.le le0 _ _ hc', h1'⟩, hr1.nonneg, fun k hk => ?_⟩
      rw [hrr] at hk
      exact hr1.mine k hk
  · intro r1 r2 b1 b2 hb1 hb2 hl1 hl2 hne k hk hk2
    have lt1 : r1 < c.nr := by have := (List.getElem?_eq_some_iff.1 hb1).1; simp at this; rw [h.nr]; exact this
    have lt2 : r2 < c.nr := by have := (List.getElem?_eq_some_iff.1 hb2).1; simp at this; rw [h.nr]; exact this
    have olt : ∀ q b, s.rows[q]? = some b → b.live = true → ∀ k, (c.r q).ownBlock = some k → k < c.w.heap.size := fun q b hb hl k hk => by
      obtain ⟨us', ho', _⟩ := (h.rows q b hb hl).at_
      exact own_blk_lt ho' hk
    by_cases e1 : r1 = r
    · subst e1
      have e2 : r2 ≠ r1 := Ne.symm hne
      rw [List.getElem?_set_ne (Ne.symm e2)] at hb2
      rw [rnew] at hk
      rw [rold r2 lt2 e2] at hk2
      rcases hblk k hk with q | q
      · exact h.rdist r1 r2 b b2 hb hb2 hlive hl2 hne k q hk2
      · have := olt r2 b2 hb2 hl2 k hk2; omega
    · rw [List.getElem?_set_ne (Ne.symm e1)] at hb1
      rw [rold r1 lt1 e1] at hk
      by_cases e2 : r2 = r
      · subst e2
        rw [rnew] at hk2
        rcases hblk k hk2 with q | q
        · exact h.rdist r1 r2 b1 b hb1 hb hl1 hlive hne k hk q
        · have := olt r1 b1 hb1 hl1 k hk; omega
      · rw [List.getElem?_set_ne (Ne.symm e2)] at hb2
        rw [rold r2 lt2 e2] at hk2
        exact h.rdist r1 r2 b1 b2 hb1 hb2 hl1 hl2 hne k hk hk2

theorem sliced_eq (A : Option Addr) (l h m s : Nat) : sliced A l h m s = .slice (if m = l then A else A.map (·.add (l * s))) (h - l) (m - l) := rfl
theorem tailOf_sound (h : Holds w0 fp c s a) {sz : Nat} {y : V} {u : Value} {m : I} {ms : Ct} (hy : RV c y u) (hsz : 0 < sz) (ht : tailOf s sz y = some (m, ms)) :
    ∃ A cp news, u = .slice A m.val.toNat cp ∧ 0 ≤ m.val ∧ m.val.toNat ≤ cp ∧ news.length = m.val.toNat * sz ∧ (A = none → m.val.toNat = 0) ∧ (∀ ad, A = some ad → ∀ j v, news[j]? = some v → c.w.cell? (ad.add j) = some v) ∧ RCs c (ms.cells m.val.toNat sz) news ∧ (∀ v ∈ news, v.oneCell' = true) ∧ cp ≤ maxLen ∧ ∀ ad, A = some ad → 0 < m.val.toNat → lent c s ad.block := by
  unfold tailOf at ht
  split at ht
  · obtain ⟨rfl, rfl⟩ := Prod.mk.inj (Option.some.inj ht)
    simp only [RV, RC] at hy
    subst hy
    exact ⟨none, 0, [], rfl, by simp [I.val], by simp [I.val], by simp [I.val], fun _ => rfl, fun _ h => (by cases h), by simp [Ct.cells, RCs], by simp, by simp, fun _ h => (by cases h)⟩
  · rename_i r
    cases hb : s.rows[r]? with
    | none => simp [hb] at ht
    | some b =>
      simp only [hb] at ht
      split at ht
      case isFalse => cases ht
      rename_i hcond
      simp only [Bool.and_eq_true, beq_iff_eq] at hcond
      obtain ⟨hlive, rfl⟩ := hcond
      have hr := h.rows r b hb hlive
      obtain ⟨us, ho, hc, h1⟩ := hr.at_
      simp only [RV] at hy
      obtain ⟨_, rfl, _⟩ := hy
      obtain ⟨rfl, rfl⟩ := Prod.mk.inj (Option.some.inj ht)
      rcases ho.2 with ⟨hv, hz⟩ | ⟨g, cap, cur, hv, _, _, hcap, hcm, _⟩
      · refine ⟨none, 0, us, by rw [hv, hz], hr.nonneg, by omega, ho.1, fun _ => hz, fun _ h => (by cases h), hc, h1, by simp, fun _ h => (by cases h)⟩
      · refine ⟨some ⟨g, 0, none⟩, cap, us, hv, hr.nonneg, hcap, ho.1, fun h => (by cases h), fun ad had j v hj => ?_, hc, h1, hcm, fun ad had _ => .inr ⟨r, b, hb, hlive, by obtain rfl := Option.some.inj had; rw [hv]; rfl⟩⟩
        obtain rfl := Option.some.inj had
        exact ho.cells (g := g) (by rw [hv]; rfl) j v hj
  · rename_i r sz' lo n
    cases hb : s.rows[r]? with
    | none => simp [hb] at ht
    | some b =>
      simp only [hb] at ht
      split at ht
      case isFalse => cases ht
      rename_i hcond
      simp only [Bool.and_eq_true, beq_iff_eq] at hcond
      obtain ⟨⟨hlive, rfl⟩, hszb⟩ := hcond
      obtain rfl : sz' = b.sz := hszb
      have hr := h.rows r b hb hlive
      obtain ⟨us, ho, hc, h1⟩ := hr.at_
      simp only [RV] at hy
      obtain ⟨_, A, mm, cap, A', cp, hrr, hA, l0, n0, hm, rfl, hcp, hcpm, hA'⟩ := hy
      have hmm : mm = b.n.val.toNat := by
        rcases ho.2 with ⟨hv, hz⟩ | ⟨g, cap', cur, hv, _⟩
        · rw [hrr] at hv; injection hv with _ e; omega
        · rw [hrr] at hv; injection hv
      have hul := ho.1
      have hle : (lo.val.toNat + n.val.toNat) * b.sz ≤ b.n.val.toNat * b.sz := Nat.mul_le_mul_right _ (by omega)
      rw [Nat.add_mul] at hle
      -- what is read
      have hnews : ∀ j, j < n.val.toNat * b.sz → ((us.drop (lo.val.toNat * b.sz)).take (n.val.toNat * b.sz))[j]? = us[lo.val.toNat * b.sz + j]? := fun j hj => by
        rw [List.getElem?_take, if_pos hj, List.getElem?_drop]
      have hcut : RCs c (((b.ct.cells b.n.val.toNat b.sz).drop (lo.val.toNat * b.sz)).take (n.val.toNat * b.sz)) ((us.drop (lo.val.toNat * b.sz)).take (n.val.toNat * b.sz)) := by
        refine RCs.of_get (by simp [hc.length]) (fun p v u hv hu => ?_)
        simp only [List.getElem?_take, List.getElem?_drop] at hv hu
        split at hv
        · rename_i hp
          rw [if_pos hp] at hu
          obtain ⟨v', hv', hr⟩ := hc.get _ hu
          rw [hv] at hv'
          obtain rfl := Option.some.inj hv'
          exact hr
        · cases hv
      have hms : m = n ∧ RCs c (ms.cells n.val.toNat b.sz) ((us.drop (lo.val.toNat * b.sz)).take (n.val.toNat * b.sz)) := by
        split at ht
        · rename_i l q0 q1 hct
          split at ht
          case isFalse => cases ht
          obtain ⟨rfl, rfl⟩ := Prod.mk.inj (Option.some.inj ht)
          rw [hct] at hcut
          exact ⟨rfl, hcut⟩
        · rename_i lo n _ _ _ _
          obtain ⟨rfl, rfl⟩ := Prod.mk.inj (Option.some.inj ht)
          refine ⟨rfl, RCs_flat (by simp; omega) (fun i j u hi hj hu => ?_)⟩
          rw [getC_sh, natI_val]
          obtain ⟨u', hu', hr⟩ := RCs_flat_get (Ct.cols'_sound hul hc) (i := lo.val.toNat + i) (by omega) hj
          have hij : i * b.sz + j < n.val.toNat * b.sz := by
            have := Nat.mul_le_mul_right b.sz (show i + 1 ≤ n.val.toNat from hi)
            rw [Nat.add_mul] at this
            omega
          rw [hnews _ hij] at hu
          rw [Nat.add_mul, Nat.add_assoc, hu] at hu'
          obtain rfl := Option.some.inj hu'
          exact hr
      obtain ⟨rfl, hms⟩ := hms
      refine ⟨_, _, (us.drop (lo.val.toNat * b.sz)).take (m.val.toNat * b.sz), rfl, n0, hcp, by simp; omega, fun hN => ?_, fun ad had j v hj => ?_, hms, fun v hv => h1 v (List.mem_of_mem_drop (List.mem_of_mem_take hv)), hcpm, fun ad had hp => ?_⟩
      · rcases hA with hA | ⟨g, rfl⟩
        · omega
        · by_cases hz : 0 < m.val
          · rw [hA' hz] at hN; simp at hN
          · omega
      · have hj' : j < m.val.toNat * b.sz := by
          have := (List.getElem?_eq_some_iff.1 hj).1
          simp at this; omega
        have hpos : 0 < m.val.toNat := by
          rcases Nat.eq_zero_or_pos m.val.toNat with hz | hz
          · rw [hz] at hj'; simp at hj'
          · exact hz
        obtain ⟨g, rfl⟩ := hA.resolve_left (by omega)
        rw [hA' (by omega)] at had
        simp only [Option.map_some, Option.some.injEq] at had
        subst had
        rw [hnews j hj'] at hj
        rw [add_add']
        exact ho.cells (g := g) (by rw [hrr]; rfl) _ v hj
      · obtain ⟨g, rfl⟩ := hA.resolve_left (by omega)
        rw [hA' (by omega)] at had
        simp only [Option.map_some, Option.some.injEq] at had
        subst had
        exact .inr ⟨r, b, hb, hlive, by rw [hrr]; simp [Value.ownBlock, add_blk]⟩
  · rename_i n sz' cs
    split at ht
    case isFalse => cases ht
    rename_i hsz'
    simp only [beq_iff_eq] at hsz'
    subst hsz'
    obtain ⟨rfl, rfl⟩ := Prod.mk.inj (Option.some.inj ht)
    simp only [RV, RC, roR] at hy
    obtain ⟨A, cp, rfl, h0, h1, h2, h3⟩ := hy
    -- the cells, read one by one
    have hex : ∀ p : Nat, ∃ v, p < n.val.toNat * sz' → (∀ ad, A = some ad → c.w.cell? (ad.add p) = some v) ∧ v.oneCell' = true ∧ RC c (getC cs (p / sz') (p % sz')) v := fun p => by
      by_cases hp : p < n.val.toNat * sz'
      · obtain ⟨ad, ea, _, v, hv, ho, hq⟩ := h3 (p / sz') (p % sz') (Nat.div_lt_of_lt_mul (by rw [Nat.mul_comm]; exact hp)) (Nat.mod_lt _ hsz)
        have e1 : p / sz' * sz' + p % sz' = p := by rw [Nat.mul_comm]; exact Nat.div_add_mod p sz'
        rw [e1] at hv
        exact ⟨v, fun _ => ⟨fun ad' had' => by rw [ea] at had'; obtain rfl := Option.some.inj had'; exact hv, ho, hq.rc⟩⟩
      · exact ⟨undef, fun h => absurd h hp⟩
    obtain ⟨f, hf⟩ := Classical.axiomOfChoice hex
    refine ⟨A, cp, (List.range (n.val.toNat * sz')).map f, rfl, h0, h1, by simp, fun hA => ?_, fun ad had j v hj => ?_, ?_, ?_, h2, fun ad had hp => ?_⟩
    · by_cases hz : n.val.toNat = 0
      · exact hz
      · obtain ⟨ad, ea, _⟩ := h3 0 0 (by omega) hsz
        rw [hA] at ea; cases ea
    · simp only [List.getElem?_map, Option.map_eq_some_iff] at hj
      obtain ⟨q, hq, rfl⟩ := hj
      obtain ⟨hq1, hq2⟩ := List.getElem?_eq_some_iff.1 hq
      simp at hq1 hq2
      subst hq2
      exact (hf _ hq1).1 ad had
    · refine RCs_flat (by simp) (fun i j u hi hj hu => ?_)
      have hij : i * sz' + j < n.val.toNat * sz' := by
        have := Nat.mul_le_mul_right sz' (show i + 1 ≤ n.val.toNat from hi)
        rw [Nat.add_mul] at this
        omega
      simp only [List.getElem?_map, List.getElem?_range hij, Option.map_some, Option.some.injEq] at hu
      subst hu
      have := (hf _ hij).2.2
      have e1 : (i * sz' + j) / sz' = i := by rw [Nat.mul_comm, Nat.mul_add_div hsz, Nat.div_eq_of_lt hj, Nat.add_zero]
      have e2 : (i * sz' + j) % sz' = j := by rw [Nat.mul_comm, Nat.mul_add_mod, Nat.mod_eq_of_lt hj]
      rwa [e1, e2] at this
    · intro v hv
      obtain ⟨p, hp, rfl⟩ := List.mem_map.1 hv
      exact (hf p (by simpa using hp)).2.1
    · obtain ⟨ad', ea, hF, _⟩ := h3 0 0 hp hsz
      rw [ea] at had
      obtain rfl := Option.some.inj had
      exact .inl hF
  · cases ht

theorem needRoom_ok {m : I} {by_ : Nat} {ns : List Need} (h : needsOK (needRoom m by_ ns)) : (Need.room m.val by_).ok ∧ needsOK ns := by
  unfold needRoom at h
  split at h
  · split at h
    · rename_i hc; exact ⟨hc, h⟩
    · exact h
  · exact h

include hT
theorem append_sound (h : Holds w0 fp c s a) {t ty : TypeId} {x y v : V} {u u' : Value} {s' : S} (hx : RV c x u) (hy : RV c y u') (hop : opAppend T s t x y = .ok v s') (hn : needsOK s'.needs) :
    Tells P w0 fp c s' a .other (fun w => (Builtin.append_ #[t, t] ty #[u, u']).run P w) v := by
  have hd := hT.desc t
  unfold opAppend at hop
  split at hop
  case h_2 => cases hop
  rename_i e hdt
  rw [hdt] at hd
  have hd1 : P.underlying t = some (.slice e) := hd
  split at hop
  case isFalse => cases hop
  rename_i hcond
  simp only [Bool.and_eq_true, decide_eq_true_eq] at hcond
  obtain ⟨⟨hok, hs0⟩, hb0⟩ := hcond
  split at hop
  case h_2 => cases hop
  rename_i m ms htail
  obtain ⟨A, cp, news, rfl, hm0, hmc, hnl, hA, hnews, hmsr, hone, _, _⟩ := tailOf_sound h hy hs0 htail
  obtain ⟨i, hi, hz, hsi, hbi⟩ := hT.info hok
  have hzs := (hT.ok e hok).zsz
  have bound : ∀ q : I, (Need.room q.val (T e).bytes).ok → q.val.toNat ≤ maxLen ∧ q.val.toNat * (T e).bytes ≤ 140737488355328 := fun q hq => by
    obtain ⟨q0, q1⟩ := hq
    have e1 : ((q.val.toNat * (T e).bytes : Nat) : Int) = q.val * (T e).bytes := by rw [Int.natCast_mul, Int.toNat_of_nonneg q0]
    have h2 : q.val.toNat * (T e).bytes ≤ 140737488355328 := by omega
    have h3 : q.val.toNat ≤ q.val.toNat * (T e).bytes := Nat.le_mul_of_pos_right _ hb0
    exact ⟨by unfold maxLen; omega, h2⟩
  split at hop
  · -- onto nil
    have hu : u = .slice none 0 0 := by simpa only [RV, RC] using hx
    subst hu
    obtain ⟨rfl, rfl⟩ := R.ok.inj hop
    obtain ⟨b1, b2⟩ := bound m (needRoom_ok hn).1
    obtain ⟨v', w', hr, ho, hg, h1, hblk⟩ := append_own2 (P := P) c.w t ty e i (T e).zero (T e).size (T e).bytes hd1 hi hz hsi hbi hzs hs0 (.slice none 0 0) 0 [] (World.ownsRow_nil _ _ _ _) A m.val.toNat cp news hnl hA hnews hone (by omega) (by simpa using b2)
    have hg' : c.w.grownBy w' none := hg
    have hob : w'.ownsRow c.w.heap.size e (T e).size v' m.val.toNat news := by
      rw [Nat.zero_add, List.nil_append] at ho
      obtain ⟨p1, p2⟩ := ho
      refine ⟨p1, ?_⟩
      rcases p2 with p2 | ⟨g, cap, cur, hv, _, r⟩
      · exact .inl p2
      · refine .inr ⟨g, cap, cur, hv, ?_, r⟩
        rcases hblk g (by rw [hv]; rfl) with q | q
        · cases q
        · exact q
    obtain ⟨le, hh⟩ := (h.needs (needRoom m (T e).bytes s.needs)).newRow (⟨true, e, (T e).size, m, ms⟩ : Row) hg' hob h1 hm0 hmsr hone
    refine ⟨v', _, hr, hh, ?_, (fun h => by cases h), fun h => by cases h⟩
    simp only [RV, C.newRow]
    exact ⟨by rw [h.nr]; omega, by rw [if_pos h.nr.symm], by rw [if_pos h.nr.symm]; exact h1⟩
  · -- onto a row of one's own
    rename_i r
    cases hb : s.rows[r]? with
    | none => simp [hb] at hop
    | some b =>
      simp only [hb] at hop
      split at hop
      case isFalse => cases hop
      rename_i hcond
      simp only [Bool.and_eq_true, beq_iff_eq] at hcond
      obtain ⟨⟨hlive, rfl⟩, hsz⟩ := hcond
      obtain ⟨rfl, rfl⟩ := R.ok.inj hop
      have hr := h.rows r b hb hlive
      obtain ⟨us, ho, hc, h1s⟩ := hr.at_
      simp only [RV] at hx
      obtain ⟨hlt, rfl, _⟩ := hx
      obtain ⟨b1, b2⟩ := bound _ (needRoom_ok hn).1
      rw [addI_val] at b1 b2
      have hadd : (b.n.val + m.val).toNat = b.n.val.toNat + m.val.toNat := by have := hr.nonneg; omega
      rw [hadd] at b1 b2
      rw [hsz] at ho
      obtain ⟨v', w', hrun, ho', hg, h1, hblk⟩ := append_own2 (P := P) c.w t ty b.e i (T b.e).zero (T b.e).size (T b.e).bytes hd1 hi hz hsi hbi hzs hs0 (c.r r) b.n.val.toNat us ho A m.val.toNat cp news hnl hA hnews hone b1 b2
      have hh := (h.needs (needRoom (addI b.n m) (T b.e).bytes s.needs)).regrow (b' := { b with n := addI b.n m, ct := b.ct.cat b.n m b.sz ms }) hb hlive hlive (v := v') (w' := w') (us := us ++ news) hg
        (by simp only [addI_val, hadd, hsz]; exact ho') (by simp only [addI_val]; have := hr.nonneg; omega)
        (by
          simp only [addI_val, hadd]
          rw [hsz] at hc ⊢
          exact Ct.cat_sound hr.nonneg hm0 ho.1 hnl hc hmsr)
        (fun u hu => by
          rcases List.mem_append.1 hu with q | q
          · exact h1s u q
          · exact hone u q) hblk
      refine ⟨v', _, hrun, hh, ?_, (fun h => by cases h), fun h => by cases h⟩
      simp only [RV, C.regrow]
      exact ⟨hlt, by simp, by simpa using h1⟩
  · cases hop

theorem len_sound (h : Holds w0 fp c s a) {t ty : TypeId} {x v : V} {u : Value} {s' : S} (hd : ∃ e, (T t).d = .slice e) (hx : RV c x u) (hop : opLen s x = .ok v s') :
    s' = s ∧ Tells P w0 fp c s a .free (fun w => (Builtin.len_ #[t] ty #[u]).run P w) v := by
  have hdt := hT.desc t
  unfold opLen at hop
  split at hop
  · rename_i n sz cs
    obtain ⟨rfl, rfl⟩ := R.ok.inj hop
    obtain ⟨e, he⟩ := hd
    rw [he] at hdt
    have hd1 : P.underlying t = some (.slice e) := hdt
    simp only [RV, RC, roR] at hx
    obtain ⟨A, cp, rfl, h0, _⟩ := hx
    refine ⟨rfl, h.still (u := .int .i64 n.val) ?_ (by simp only [RV, RC])⟩
    intro w' _
    simp [Builtin.len_, run_underlying hd1, goInt, Int.toNat_of_nonneg h0]
  · rename_i r
    cases hb : s.rows[r]? with
    | none => simp [hb] at hop
    | some b =>
      simp only [hb] at hop
      split at hop
      case isFalse => cases hop
      rename_i hlive
      obtain ⟨rfl, rfl⟩ := R.ok.inj hop
      obtain ⟨e, he⟩ := hd
      rw [he] at hdt
      have hd1 : P.underlying t = some (.slice e) := hdt
      have hr := h.rows r b hb hlive
      obtain ⟨us, ho, _⟩ := hr.at_
      simp only [RV] at hx
      obtain ⟨_, rfl, _⟩ := hx
      refine ⟨rfl, h.still (u := .int .i64 b.n.val) ?_ (by simp only [RV, RC])⟩
      intro w' _
      rcases ho.2 with ⟨hv, hz⟩ | ⟨g, cap, cur, hv, _⟩
      · rw [hv]
        have := hr.nonneg
        simp [Builtin.len_, run_underlying hd1, goInt]
        omega
      · rw [hv]
        simp [Builtin.len_, run_underlying hd1, goInt, Int.toNat_of_nonneg hr.nonneg]
  · rename_i r sz lo n
    obtain ⟨rfl, rfl⟩ := R.ok.inj hop
    obtain ⟨e, he⟩ := hd
    rw [he] at hdt
    have hd1 : P.underlying t = some (.slice e) := hdt
    simp only [RV] at hx
    obtain ⟨_, A, mm, cap, A', cp, hrr, hA, l0, n0, hm, rfl, hcp, hcpm, hA'⟩ := hx
    refine ⟨rfl, h.still (u := .int .i64 n.val) ?_ (by simp only [RV, RC])⟩
    intro w' _
    simp [Builtin.len_, run_underlying hd1, goInt, Int.toNat_of_nonneg n0]
  · obtain ⟨rfl, rfl⟩ := R.ok.inj hop
    obtain ⟨e, he⟩ := hd
    rw [he] at hdt
    have hd1 : P.underlying t = some (.slice e) := hdt
    simp only [RV, RC] at hx
    subst hx
    refine ⟨rfl, h.still (u := .int .i64 0) ?_ (by simp only [RV, RC, I.val])⟩
    intro w' _
    simp [Builtin.len_, run_underlying hd1, goInt]
  · cases hop
end
end Go.Dx
