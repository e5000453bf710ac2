/- A row of whole numbers sorted by a function value ('slices.SortFunc'): its contract out of the function value's own. -/
import Derived.Test.YtplefbcgpbdkfaaDoorFt
import Derived.Shelf.SlSortCmp.NoneTotal
set_option linter.all false
namespace Go.Fx
open Go Go.RowKit

theorem Keeps.heap_grow {w w' : World} {D : Foot} (h : Keeps w w' D) (hD : ∀ k o, ¬ D k o) : ∃ q os, w' = Go.Sort.grow (w.drewN q) os := by
  have hx := h.ext hD
  refine ⟨w'.drawn - w.drawn, w'.heap.extract w.heap.size w'.heap.size, ?_⟩
  have hh : w'.heap = w.heap ++ w'.heap.extract w.heap.size w'.heap.size := by
    apply Array.ext_getElem?
    intro k
    rw [Array.getElem?_append]
    by_cases hk : k < w.heap.size
    · rw [if_pos hk]; exact hx.block k hk
    · rw [if_neg hk, Array.getElem?_extract]
      have := hx.size
      by_cases hk2 : k < w'.heap.size
      · rw [if_pos (by omega)]
        congr 1
        omega
      · rw [if_neg (by omega), Array.getElem?_eq_none (by omega)]
  have hd := h.drawn
  have h1 := h.os
  have h2 := h.tape
  have h3 := h.output
  obtain ⟨H, t, d, o, u⟩ := w
  obtain ⟨H', t', d', o', u'⟩ := w'
  simp only at h1 h2 h3 hd hh
  subst h1 h2 h3
  simp only [Go.Sort.grow, World.drewN]
  rw [← hh]
  congr 1
  omega

section
variable {α : Type} [Inhabited α]
theorem sortWorld_keeps {enc : α → Value} {w : World} {blk off : Nat} {us : List Value} (h : Cells w blk off us) (d : Array α) (hd : d.size = us.length) (m : Nat) (os : Array Obj) :
    Cells (Go.Proofs.sortWorld enc w blk off m d os) blk off (d.toList.map enc) ∧ Keeps w (Go.Proofs.sortWorld enc w blk off m d os) (fun k p => k = blk ∧ off ≤ p ∧ p < off + us.length) := by
  obtain ⟨cur, el, hg, hle, he⟩ := h.at_
  have hlt : blk < w.heap.size := (Array.getElem?_eq_some_iff.1 hg).1
  have hsz : (Go.Proofs.sortWorld enc w blk off m d os).heap.size = w.heap.size + os.size := by simp [Go.Proofs.sortWorld]
  have hgW : (Go.Proofs.sortWorld enc w blk off m d os).heap[blk]? = some (.cells (Go.Sort.putCells enc off d cur) el (0, 0)) := by
    simp only [Go.Proofs.sortWorld, Go.Sort.grow, Go.Sort.putRow, Go.Sort.mapBlock, Go.Sort.heap_ahead]
    rw [Array.getElem?_append_left (by simpa using hlt), Array.getElem?_modify, if_pos rfl, hg]
    rfl
  have hoW : ∀ k, k < w.heap.size → k ≠ blk → (Go.Proofs.sortWorld enc w blk off m d os).heap[k]? = w.heap[k]? := fun k hk hne => by
    simp only [Go.Proofs.sortWorld, Go.Sort.grow, Go.Sort.putRow, Go.Sort.mapBlock, Go.Sort.heap_ahead]
    rw [Array.getElem?_append_left (by simpa using hk), Array.getElem?_modify, if_neg (fun e => hne e.symm)]
  have hps : (Go.Sort.putCells enc off d cur).size = cur.size := by simp [Go.Sort.putCells]
  have hrow : (w.setRow blk (Go.Sort.putCells enc off d cur)).heap[blk]? = some (.cells (Go.Sort.putCells enc off d cur) el (0, 0)) := setRow_heap w blk cur _ el (0, 0) hg
  refine ⟨⟨_, el, hgW, by rw [hps, List.length_map, Array.length_toList, hd]; exact hle, ?_⟩, ⟨rfl, rfl, rfl, by rw [hsz]; omega, fun k p hk hn => ?_, fun k cs e f hk => ?_, Nat.le_add_right _ _⟩⟩
  · apply List.ext_getElem?
    intro j
    rw [List.getElem?_take, List.getElem?_drop, List.length_map, Array.length_toList]
    by_cases hj : j < d.size
    · rw [if_pos hj, Array.getElem?_toList, List.getElem?_map, Array.getElem?_toList, Array.getElem?_eq_getElem hj]
      have hc : off + j < cur.size := by omega
      simp only [Go.Sort.putCells, Array.getElem?_mapIdx, Array.getElem?_eq_getElem hc, Option.map_some]
      rw [if_pos ⟨by omega, by omega⟩, show off + j - off = j by omega, getElem!_pos d j hj]
    · rw [if_neg hj, List.getElem?_eq_none (by simpa using hj)]
  · by_cases e : k = blk
    · subst e
      rw [spot_of_block (w := w.setRow k (Go.Sort.putCells enc off d cur)) (hgW.trans hrow.symm)]
      refine spot_setRow_same hg hps ?_
      simp only [Go.Sort.putCells, Array.getElem?_mapIdx]
      cases hc : cur[p]? with
      | none => rfl
      | some y =>
        rw [Option.map_some, if_neg]
        intro q
        exact hn ⟨rfl, q.1, by omega⟩
    · exact spot_of_block (hoW k hk e) p
  · by_cases e : k = blk
    · subst e
      rw [hg] at hk
      simp only [Option.some.injEq, Obj.cells.injEq] at hk
      obtain ⟨rfl, rfl, rfl⟩ := hk
      exact ⟨_, hgW, hps⟩
    · exact ⟨cs, by rw [hoW k (Array.getElem?_eq_some_iff.1 hk).1 e]; exact hk, rfl⟩
end

/-- What a state with roots that stay where they are is for a call that turns nothing. -/
theorem Holds.look {w0 : World} {fp : Base} {c : C} {s : S} {a : Act} (h : Holds w0 fp c s a) {t : S} (e1 : t.vars = s.vars) (e2 : t.rows = s.rows) (e3 : t.tmps = []) (e4 : t.objs = []) (e5 : s.objs = [])
    (hl : t.lk = ⟨t.vars.length, t.rows.length, 0, t.rows.length⟩) (hfix : ∀ (r : Nat) (b : Row), t.rows[r]? = some b → b.live = true ∧ b.fix = true) : Holds c.w (baseOf fp.K true c t) c t ⟨#[], []⟩ := by
  have hf : ∀ q k o, foot c t q k o → foot c s q k o := fun q k o hq => by
    cases q with
    | v x => simpa only [foot, e1] using hq
    | r x => simpa only [foot, e2] using hq
    | o x => obtain ⟨b, hb, _⟩ := hq; rw [e4] at hb; simp at hb
  have hb : (baseOf fp.K true c t).lk = ⟨t.vars.length, t.rows.length, 0, t.rows.length⟩ := hl
  have hrw : ∀ r, r < t.rows.length → (baseOf fp.K true c t).r[r]? = some (some (c.r r)) := fun r hr => by
    have hr' := List.getElem?_eq_getElem hr
    obtain ⟨q1, q2⟩ := hfix r _ hr'
    simp only [baseOf, List.getElem?_map, List.getElem?_range hr, Option.map_some, hr', q1, q2, Bool.and_self, if_true]
  refine { gl := h.gl, keeps := Keeps.refl _ _, eF := fun _ _ h => h, eF2 := fun _ _ h => .inl h, lk := rfl, fpk := ⟨?_, ?_, ?_, ?_, ?_⟩, tmps := by rw [e3]; exact RVs.nil, defers := rfl, nv := by rw [e1]; exact h.nv, nr := by rw [e2]; exact h.nr, nb := by rw [h.nb, e4, e5], vars := ?_, rows := ?_, objs := ?_, disj := ?_, mine := ?_, free := ?_, flt := h.flt, ag := ?_, ar := ?_, ao := ?_ }
  · rw [hb]; simp [baseOf]
  · intro r hr
    rw [hb] at hr
    exact ⟨_, hrw r hr⟩
  · rw [hb]
  · intro x k o hx hq
    obtain ⟨b, hb', _⟩ := hq
    have := (List.getElem?_eq_some_iff.1 hb').1
    rw [hb] at hx
    simp only at hx
    omega
  · intro r v hr
    rw [hb]
    simp only [baseOf, List.getElem?_map, Option.map_eq_some_iff] at hr
    obtain ⟨y, hy, _⟩ := hr
    have := (List.getElem?_eq_some_iff.1 hy).1
    simpa using this
  · intro x b hx hlv
    exact h.vars x b (by rw [← e1]; exact hx) hlv
  · intro x b hx hlv
    exact h.rows x b (by rw [← e2]; exact hx) hlv
  · intro x b hx
    rw [e4] at hx
    simp at hx
  · intro q q' k o h1 h2
    exact h.disj q q' k o (hf q k o h1) (hf q' k o h2)
  · intro q k o h1
    exact ⟨.inr (Base.own_self h1), (h.mine q k o (hf q k o h1)).2⟩
  · intro q k o h1 hq
    rw [hb] at hq
    cases q with
    | v x =>
      obtain ⟨b, hb', _⟩ := h1
      have := (List.getElem?_eq_some_iff.1 hb').1
      simp [LK.has] at hq
      omega
    | r x =>
      obtain ⟨b, hb', _⟩ := h1
      have := (List.getElem?_eq_some_iff.1 hb').1
      simp [LK.has] at hq
      omega
    | o x =>
      obtain ⟨b, hb', _⟩ := h1
      rw [e4] at hb'
      simp at hb'
  · intro x ad hx
    simp only [baseOf, List.getElem?_map, Option.map_eq_some_iff] at hx
    obtain ⟨x', hx', rfl⟩ := hx
    obtain ⟨hlt, he⟩ := List.getElem?_eq_some_iff.1 hx'
    simp at hlt he
    subst he
    exact ⟨by rw [h.nv, ← e1]; exact hlt, rfl⟩
  · intro r v hrv
    have hlt : r < t.rows.length := by
      have := (List.getElem?_eq_some_iff.1 hrv).1
      simpa [baseOf] using this
    rw [hrw r hlt] at hrv
    simp only [Option.some.injEq] at hrv
    have hr' := List.getElem?_eq_getElem hlt
    exact ⟨hrv, _, hr', hfix r _ hr'⟩
  · intro x v hx
    simp only [baseOf, e4] at hx
    simp at hx

/-- Sorted by a function that tells which of two comes first. -/
def srt (cf : Int → Int → Int) (l : List Int) : List Int := l.mergeSort fun x y => !decide (cf y x < 0)
theorem srt_perm (cf : Int → Int → Int) (l : List Int) : (srt cf l).Perm l := List.mergeSort_perm _ _
/-- Whatever two are parted. -/
structure Parts (l : List Int) (cf : Int → Int → Int) : Prop where
  irr : ∀ x ∈ l, ¬ cf x x < 0
  tra : ∀ x ∈ l, ∀ y ∈ l, ∀ z ∈ l, cf x y < 0 → cf y z < 0 → cf x z < 0
  tri : ∀ x ∈ l, ∀ y ∈ l, ¬ cf x y < 0 → ¬ cf y x < 0 → x = y
/-- What ties the sort's contract to the function value's: at a state 's' with the row of 'l'. -/
structure SortAt (kc : Con) (g : FuncId) (caps : List V) (ks : Con) (us : List U) (e : TypeId) (l : List Int) (cf : Int → Int → Int) : Prop where
  args : ks.argV us = [.own 0, .fn g caps]
  row : (ks.st us).rows[0]? = some ⟨true, true, e, .i .i64, .s (l.length : Int), l⟩
  fix : ∀ (r : Nat) (b : Row), (ks.st us).rows[r]? = some b → b.live = true ∧ b.fix = true
  obs : (ks.st us).objs = []
  ro : ks.ro = false
  ro' : kc.ro = true
  parts : Parts l cf
  short : l.length < 4611686018427387904
  cmp : ∀ x ∈ l, ∀ y ∈ l, ∀ dk : List Int, dk.length = l.length → ∃ uc, uc.map U.t = kc.kn ∧ kc.pre uc ∧ kc.argV uc = .i .i64 (.s x) :: .i .i64 (.s y) :: caps ∧
    kc.st uc = { ks.st us with rows := (ks.st us).rows.set 0 ⟨true, true, e, .i .i64, .s (dk.length : Int), dk⟩, lk := ⟨(ks.st us).vars.length, (ks.st us).rows.length, 0, (ks.st us).rows.length⟩ } ∧
    ∀ os, kc.post uc os → kc.ret uc os = .i .i64 (.s (cf x y))
  outs : ks.outs = []
  post : ks.post us []
  ret : ks.ret us [] = .tup []
  out : ks.outS us [] = { ks.st us with rows := (ks.st us).rows.set 0 ⟨true, true, e, .i .i64, .s ((srt cf l).length : Int), srt cf l⟩ }
theorem ints_cells {c : C} : ∀ {l : List Int} {us : List Value}, RpL (Rp c (.i .i64)) l us → us = l.map (Value.int .i64)
  | [], us, h => by simpa [RpL] using h
  | x :: l, us, h => by
    obtain ⟨u1, u2, rfl, h1, h2⟩ := h
    simp only [Rp] at h1
    subst h1
    rw [ints_cells h2]
    rfl
theorem cells_ints {c : C} : ∀ (l : List Int), RpL (Rp c (.i .i64)) l (l.map (Value.int .i64))
  | [] => by simp [RpL]
  | x :: l => ⟨[.int .i64 x], _, rfl, by simp [Rp], cells_ints l⟩
theorem Holds.setFix {w0 : World} {fp : Base} {c : C} {s : S} {a : Act} (h : Holds w0 fp c s a) (hlk : fp.lk.has (.r 0) = false) {e : TypeId} {l l' : List Int} (hb : s.rows[0]? = some ⟨true, true, e, .i .i64, .s (l.length : Int), l⟩) {blk off cap : Nat}
    (hv : c.r 0 = .slice (some ⟨blk, off, none⟩) l.length cap) (h1 : l.length ≤ cap) (h2 : cap ≤ maxLen) (hll : l'.length = l.length) {w' : World} (hc : Cells w' blk off (l'.map (Value.int .i64)))
    (hk : Keeps c.w w' (fun k p => k = blk ∧ off ≤ p ∧ p < off + l.length)) : Holds w0 fp (c.world w') { s with rows := s.rows.set 0 ⟨true, true, e, .i .i64, .s (l'.length : Int), l'⟩ } a := by
  refine (h.write (w' := w') (s' := { s with rows := s.rows.set 0 ⟨true, true, e, .i .i64, .s (l'.length : Int), l'⟩ }) (.r 0) (hk.mono fun k p hd => ⟨_, hb, rfl, ?_⟩) rfl (by simp) rfl ?_ ?_ ?_ hlk rfl rfl (fun x q => by cases q)).2
  · rw [hv]
    obtain ⟨rfl, q1, q2⟩ := hd
    exact ⟨rfl, .inr ⟨q1, by simp only [Tp.size]; omega⟩⟩
  · intro x b' hx
    exact ⟨b', hx, rfl, rfl, .inl ⟨rfl, fun q => by cases q⟩⟩
  · intro r b hr
    exact set_some hr
  · intro r b' hr
    rcases set_get hr with ⟨rfl, rfl⟩ | ⟨hne, hr⟩
    · refine ⟨_, hb, rfl, rfl, rfl, .inr ⟨rfl, _, ⟨?_, .inr (.inr ⟨blk, off, cap, ?_, by rw [hll]; exact h1, h2, hc, fun q => by cases q⟩)⟩, cells_ints l'⟩⟩
      · simp [Tp.size]
      · show c.r 0 = _
        rw [hv, hll]
    · exact ⟨b', hr, rfl, rfl, rfl, .inl ⟨rfl, fun q => by injection q with q; exact hne q⟩⟩

theorem sort_ok {K : Env} {P : Program} {ρ : Go.Shelf.Ren} (L : Go.Proofs.SlLaysF.n6 P ρ) {g : FuncId} (eg : ∀ args w, (callFunc g args).run P w = .ok (.enter g args) w) {kc ks : Con} (hkc : kc.ok K P g) {caps : List V}
    (hA : ∀ us, us.map U.t = ks.kn → ks.pre us → ∃ e l cf, SortAt kc g caps ks us e l cf) : ks.ok K P (ρ.f 6) := by
  intro us hus hpre c vals hh hargs
  obtain ⟨e, l, cf, H⟩ := hA us hus hpre
  rw [H.args] at hargs
  simp only [RVs] at hargs
  obtain ⟨v0, _, rfl, hv0, fv, _, rfl, hfv, rfl⟩ := hargs
  simp only [RV] at hv0 hfv
  obtain ⟨_, rfl, _⟩ := hv0
  obtain ⟨cb, rfl, hcb⟩ := hfv
  obtain ⟨us0, hat, hR⟩ := (hh.rows 0 _ H.row rfl).at_
  obtain rfl := ints_cells hR
  have hlkS : (ks.st us).lk = ⟨0, 0, 0, ks.rows.length⟩ := by simp [Con.st, Con.lk, H.ro]
  have hlk : (baseOf K ks.ro c (ks.st us)).lk.has (.r 0) = false := by
    show (ks.st us).lk.has (.r 0) = false
    rw [hlkS]; rfl
  by_cases hl0 : l = []
  · subst hl0
    have hsrt : srt cf [] = [] := by simp [srt]
    have hout : ks.outS us [] = ks.st us := by
      rw [H.out, hsrt]
      have : (ks.st us).rows.set 0 ⟨true, true, e, .i .i64, .s (([] : List Int).length : Int), []⟩ = (ks.st us).rows := by
        apply List.ext_getElem?
        intro r
        rw [List.getElem?_set]
        by_cases hr : 0 = r
        · subst hr
          have hp : 0 < (ks.st us).rows.length := (List.getElem?_eq_some_iff.1 H.row).1
          rw [if_pos rfl, if_pos hp]
          exact H.row.symm
        · rw [if_neg hr]
      rw [this]
    have fin : ∀ A cp, c.r 0 = .slice A 0 cp → Calls P (ρ.f 6) [c.r 0, .func (.func g) #[] cb].toArray c.w fun e w' => ∃ (u : Value) (os : List U) (c' : C), e = .returned u ∧ w' = c'.w ∧ os.map U.t = ks.outs ∧ ks.post us os ∧ RV c' (ks.ret us os) u ∧ Holds c.w (baseOf K ks.ro c (ks.st us)) c' (ks.outS us os) ⟨#[], []⟩ := fun A cp he => by
      rw [he]
      refine (Go.Proofs.AnyF.slices_SortFunc_none (P := P) (ρ := ρ) { L with } A cp _ c.w).mono ?_
      rintro e' w' ⟨rfl, rfl⟩
      refine ⟨_, [], c, rfl, rfl, by rw [H.outs]; rfl, H.post, by rw [H.ret]; simp only [RV]; exact ⟨_, rfl, RVs.nil⟩, by rw [hout]; exact hh⟩
    rcases hat.at_ with ⟨he, _⟩ | ⟨_, _, A, cp, he, _⟩ | ⟨b, o, cap, he, _⟩
    · exact fin _ _ he
    · exact fin _ _ he
    · exact fin _ _ he
  have hpos : 0 < l.length := List.length_pos_iff.2 hl0
  obtain ⟨blk, off, cap, hv, h1, h2, hc, -⟩ : ∃ g o cap, c.r 0 = .slice (some ⟨g, o, none⟩) l.length cap ∧ l.length ≤ cap ∧ cap ≤ maxLen ∧ Cells c.w g o (l.map (Value.int .i64)) ∧ True := by
    rcases hat.at_ with ⟨_, hz⟩ | ⟨_, hz, _⟩ | ⟨b, o, cap, he, q1, q2, q3, _⟩
    · simp only at hz; omega
    · simp only at hz; omega
    · exact ⟨b, o, cap, he, q1, q2, q3, trivial⟩
  -- the elements
  obtain ⟨x0, hx0⟩ : ∃ x, x ∈ l := List.exists_mem_of_length_pos hpos
  let α := { x : Int // x ∈ l }
  haveI : Inhabited α := ⟨⟨x0, hx0⟩⟩
  let enc : α → Value := fun x => .int .i64 x.1
  let cf' : α → α → Int := fun x y => cf x.1 y.1
  have hO : Go.Sort.SWO (Go.Proofs.ltOf cf') := by
    refine ⟨fun x => ?_, fun x y z a b => ?_, fun x y z a b => ?_⟩
    · simpa [Go.Proofs.ltOf] using H.parts.irr x.1 x.2
    · simp only [Go.Proofs.ltOf, decide_eq_true_eq] at a b ⊢
      exact H.parts.tra _ x.2 _ y.2 _ z.2 a b
    · simp only [Go.Proofs.ltOf, decide_eq_false_iff_not] at a b ⊢
      intro q
      by_cases hyx : cf y.1 x.1 < 0
      · exact b (H.parts.tra _ y.2 _ x.2 _ z.2 hyx q)
      · have e := H.parts.tri _ x.2 _ y.2 a hyx
        exact b (show cf y.1 z.1 < 0 by rw [← e]; exact q)
  have hT : ∀ x y, (Go.Proofs.ltOf cf') x y = false → (Go.Proofs.ltOf cf') y x = false → x = y := fun x y a b => by
    simp only [Go.Proofs.ltOf, decide_eq_false_iff_not] at a b
    exact Subtype.ext (H.parts.tri _ x.2 _ y.2 a b)
  let d : Array α := l.attach.toArray
  have hds : d.size = l.length := List.length_attach
  have hmap : ∀ dk : List α, (dk.map enc) = (dk.map Subtype.val).map (Value.int .i64) := fun dk => by rw [List.map_map]; rfl
  have hdm : d.toList.map Subtype.val = l := List.attach_map_subtype_val l
  have hHold : Go.Sort.Holds enc c.w blk off d := by
    intro j hj
    have hj' : j < l.length := by rw [← hds]; exact hj
    constructor
    · refine hc.get ?_
      rw [← hdm, ← hmap, List.getElem?_map, Array.getElem?_toList, Array.getElem?_eq_getElem hj, getElem!_pos d j hj]
      rfl
    · obtain ⟨cur, el, hg, _⟩ := hc.at_
      simp [World.frozen?, hg]
  have hcells : ∀ (m : Nat) (os : Array Obj) (dk : Array α), dk.size = d.size → Holds c.w (baseOf K ks.ro c (ks.st us)) (c.world (Go.Proofs.sortWorld enc c.w blk off m dk os)) { ks.st us with rows := (ks.st us).rows.set 0 ⟨true, true, e, .i .i64, .s ((dk.toList.map Subtype.val).length : Int), dk.toList.map Subtype.val⟩ } ⟨#[], []⟩ := by
    intro m os dk hs
    obtain ⟨k1, k2⟩ := sortWorld_keeps hc dk (by rw [hs, hds, List.length_map]) m os (enc := enc)
    rw [List.length_map] at k2
    rw [hmap] at k1
    exact hh.setFix hlk H.row hv h1 h2 (by simp [hs, hds]) k1 k2
  have hcmp : Go.Proofs.CmpLays1 P g cb enc cf' blk off d.size c.w := by
    intro m os dk hs x y
    obtain ⟨uc, q1, q2, q3, q4, q5⟩ := H.cmp x.1 x.2 y.1 y.2 (dk.toList.map Subtype.val) (by simp [hs, hds])
    have hS := hcells m os dk hs
    have hL : Holds (Go.Proofs.sortWorld enc c.w blk off m dk os) (baseOf K true (c.world (Go.Proofs.sortWorld enc c.w blk off m dk os)) (kc.st uc)) (c.world (Go.Proofs.sortWorld enc c.w blk off m dk os)) (kc.st uc) ⟨#[], []⟩ := by
      refine hS.look (by rw [q4]) (by rw [q4]) (by rw [q4]; rfl) (by rw [q4]; exact H.obs) H.obs (by rw [q4]; simp) ?_
      intro r b hb
      rw [q4] at hb
      rcases set_get hb with ⟨_, rfl⟩ | ⟨_, hb⟩
      · exact ⟨rfl, rfl⟩
      · exact H.fix r b hb
    have hcb' : RVs (c.world (Go.Proofs.sortWorld enc c.w blk off m dk os)) caps cb.toList := by
      obtain ⟨k1, k2⟩ := sortWorld_keeps hc dk (by rw [hs, hds, List.length_map]) m os (enc := enc)
      refine RVs.le ({ hh.le0 (c' := c.world _) (k2.mono (D' := foot c (ks.st us) (.r 0)) fun k p hd => ⟨_, H.row, rfl, ?_⟩) (fun k o hf _ => ⟨hh.free _ k o hf hlk, (hh.mine _ k o hf).2⟩) rfl with g := fun _ _ => rfl, nv := Nat.le_refl _, r := fun _ _ => rfl, nr := Nat.le_refl _, ob := fun _ _ => rfl, nb := Nat.le_refl _ } : C.Le c _) _ _ hcb
      rw [hv]
      obtain ⟨rfl, p1, p2⟩ := hd
      rw [List.length_map] at p2
      exact ⟨rfl, .inr ⟨p1, by simp only [Tp.size]; omega⟩⟩
    have hro := H.ro'
    have := hkc uc q1 q2 (c.world (Go.Proofs.sortWorld enc c.w blk off m dk os)) (enc x :: enc y :: cb.toList) (by rw [hro]; exact hL) (by rw [q3]; exact .cons (by simp [RV, enc, I.val]) (.cons (by simp [RV, enc, I.val]) hcb'))
    have harr : (enc x :: enc y :: cb.toList).toArray = #[enc x, enc y] ++ cb := by
      apply Array.ext'
      simp
    rw [harr] at this
    refine this.mono ?_
    rintro e' w' ⟨u, os', c', rfl, rfl, _, q6, q7, q8⟩
    rw [q5 os' q6] at q7
    simp only [RV, I.val] at q7
    subst q7
    refine ⟨rfl, q8.keeps.heap_grow (fun k o hq => ?_)⟩
    have := hq.1
    rw [hro] at this
    cases this
  have hblk : blk < c.w.heap.size := hc.lt
  have hsmall : d.size < 4611686018427387904 := by
    rw [hds]
    exact H.short
  have hrun := Go.Proofs.Any.slices_SortFunc_total L enc (fun _ => rfl) cf' hO g cb blk off cap d c.w eg hcmp hHold hblk hsmall hT
  rw [hv]
  rw [hds] at hrun
  refine hrun.mono ?_
  rintro e' w' ⟨rfl, n, os, rfl⟩
  have hsorted : (d.toList.mergeSort fun x y => !(Go.Proofs.ltOf cf') y x).map Subtype.val = srt cf l := by
    rw [List.map_mergeSort (s := fun x y => !decide (cf y x < 0)) (by intro a _ b _; rfl), hdm]
    rfl
  have hperm : (d.toList.mergeSort fun x y => !(Go.Proofs.ltOf cf') y x).toArray.size = d.size := by simp
  have hS := hcells n os _ hperm
  rw [show ((d.toList.mergeSort fun x y => !(Go.Proofs.ltOf cf') y x).toArray).toList = (d.toList.mergeSort fun x y => !(Go.Proofs.ltOf cf') y x) from rfl, hsorted] at hS
  rw [← H.out] at hS
  exact ⟨.tuple #[], [], c.world _, rfl, rfl, by rw [H.outs]; rfl, H.post, by rw [H.ret]; simp only [RV]; exact ⟨_, rfl, RVs.nil⟩, hS⟩
end Go.Fx
