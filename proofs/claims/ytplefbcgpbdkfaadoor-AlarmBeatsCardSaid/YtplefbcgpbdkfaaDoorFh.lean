/- Every operation that the machine takes. -/
import Derived.Test.YtplefbcgpbdkfaaDoorFg
set_option linter.all false
namespace Go.Fx
open Go Go.RowKit

theorem bytes_loop (b : ByteArray) : ∀ (n i : Nat) (r : List UInt8), b.size - i = n → ByteArray.toList.loop b i r = r.reverse ++ b.data.toList.drop i := by
  intro n
  induction n with
  | zero =>
    intro i r h
    unfold ByteArray.toList.loop
    rw [if_neg (by omega), List.drop_of_length_le (by have : b.data.toList.length = b.size := rfl
                                                      omega)]
    simp
  | succ n ih =>
    intro i r h
    have hlt : i < b.data.toList.length := by have : b.data.toList.length = b.size := rfl
                                              omega
    unfold ByteArray.toList.loop
    rw [if_pos (by omega), ih (i + 1) _ (by omega), List.drop_eq_getElem_cons hlt]
    have e : b.get! i = b.data.toList[i] := by
      cases b with
      | mk d => simp [ByteArray.get!]; rw [getElem!_pos d i (by simpa using hlt)]
    rw [e]
    simp
theorem bytes_toList (b : ByteArray) : b.toList = b.data.toList := by
  unfold ByteArray.toList
  rw [bytes_loop b _ 0 [] rfl]
  simp
theorem bytes_ext {a b : ByteArray} (h : a.toList = b.toList) : a = b := by
  rw [bytes_toList, bytes_toList] at h
  cases a with
  | mk x => cases b with
    | mk y => simp only at h; rw [Array.ext' h]
theorem same_toList (a b : ByteArray) : same a b = (a.toList == b.toList) := by
  rw [Bool.eq_iff_iff, same_iff, beq_iff_eq]
  exact ⟨fun h => by rw [h], bytes_ext⟩
theorem aggOf_sound {c : C} {v : V} {u : Value} {l : List V} (h : RV c v u) (hl : aggOf v = some l) : ∃ us, u = .agg us ∧ RVs c l us.toList := by
  unfold aggOf at hl
  split at hl
  · obtain rfl := Option.some.inj hl
    simpa only [RV] using h
  · obtain rfl := Option.some.inj hl
    simp only [RV] at h
    obtain ⟨us, e, hr⟩ := h
    exact ⟨us, e, Tp.cells_sound hr⟩
  · cases hl
section
variable {P : Program} {T : TypeId → TI} (hT : TabOK P T) {w0 : World} {fp : Base} {c : C} {s : S} {a : Act}

/-- The operation is carried out: a value. -/
def Did (P : Program) (w0 : World) (fp : Base) (c : C) (s s' : S) (a : Act) (o : Oper) (v : V) : Prop :=
  ∃ u c', (execOp a.eval o).run P c.w = .ok (.value u) c'.w ∧ Holds w0 fp c' s' a ∧ RV c' v u ∧ (isQuiet o.op = true → c' = c ∧ (s'.vars = s.vars ∧ s'.rows = s.rows ∧ s'.objs = s.objs) ∧ ∀ w', AgreeOn (RF c s (readsO s o.op)) c.w w' → (execOp a.eval o).run P w' = .ok (.value u) w') ∧ StepOK c s c' s' (touchO s o.op)
def DidNone (P : Program) (w0 : World) (fp : Base) (c : C) (s s' : S) (a : Act) (o : Oper) (tch : List Rt) : Prop :=
  ∃ c', (execOp a.eval o).run P c.w = .ok .skip c'.w ∧ Holds w0 fp c' s' a ∧ StepOK c s c' s' tch

theorem Did.of {o : Oper} {s' : S} {v : V} {f : Sem Value} (he : execOp a.eval o = (do pure (.value (← f)) : Sem Next)) {q : Kind} (hq : (isQuiet o.op = true → q = .free [] ∨ q = .free (readsO s o.op)) ∧ (q.tch = [] ∨ q.tch = touchO s o.op)) (h : Tells P w0 fp c s s' a q (fun w => f.run P w) v) : Did P w0 fp c s s' a o v := by
  obtain ⟨u, c', hr, hh, hv, hw, hm⟩ := h
  refine ⟨u, c', ?_, hh, hv, fun hi => ?_, ?_⟩
  · rw [he]
    simp [hr]
  · have key : c' = c ∧ (s'.vars = s.vars ∧ s'.rows = s.rows ∧ s'.objs = s.objs) ∧ ∀ w', AgreeOn (RF c s (readsO s o.op)) c.w w' → f.run P w' = .ok u w' := by
      rcases hq.1 hi with e | e
      · obtain ⟨h1, h2, h3⟩ := hw _ e
        exact ⟨h1, h2, fun w' hw' => h3 w' (hw'.mono fun k p hk => hk.imp id fun ⟨q, hq, _⟩ => by cases hq)⟩
      · exact hw _ e
    refine ⟨key.1, key.2.1, fun w' hw' => ?_⟩
    rw [he]
    simp [key.2.2 w' hw']
  · rcases hq.2 with e | e
    · rw [e] at hm
      exact ⟨hm.F, fun k o hk => hm.agree k o (hk.imp id fun ⟨q, _, hf⟩ => ⟨q, by simp, hf⟩), fun q k o _ hf => hm.foot q k o (by simp) hf⟩
    · rw [← e]; exact hm
theorem Did.still {o : Oper} {s' : S} {v : V} {u : Value} (h : Holds w0 fp c s' a) (he : ∀ w', AgreeOn (RF c s (readsO s o.op)) c.w w' → (execOp a.eval o).run P w' = .ok (.value u) w') (hv : RV c v u) (e1 : s'.vars = s.vars := by rfl) (e2 : s'.rows = s.rows := by rfl) (e3 : s'.objs = s.objs := by rfl) : Did P w0 fp c s s' a o v := ⟨u, c, he _ (.refl _ _), h, hv, fun _ => ⟨rfl, ⟨e1, e2, e3⟩, he⟩, StepOK.same e1 e2 e3⟩

theorem needsOK_left : ∀ (l m : List Need), needsOK (l ++ m) → needsOK l
  | [], _, _ => trivial
  | _ :: l, m, hm => ⟨hm.1, needsOK_left l m hm.2⟩
theorem Bval_l (b : Bool) : (B.l b).val = b := rfl
theorem Bval_s (b : Bool) : (B.s b).val = b := rfl
theorem Ival_l (b : Int) : (I.l b).val = b := rfl
theorem Ival_s (b : Int) : (I.s b).val = b := rfl

set_option maxHeartbeats 4000000 in
include hT in
theorem op0_sound (h : Holds w0 fp c s a) {o : Oper} {v : V} {s' : S} (hop : op0 T s o.op = .ok v s') (hn : needsOK s'.needs) : Did P w0 fp c s s' a o v := by
  have hev := RV.ev (c := c) (s := s) (a := a) h.tmps
  cases ho : o.op with
  | move x =>
    rw [ho] at hop
    obtain ⟨rfl, rfl⟩ := R.ok.inj hop
    exact Did.still h (fun w' _ => by simp [execOp, ho]) (hev x)
  | assign x =>
    rw [ho] at hop
    obtain ⟨rfl, rfl⟩ := R.ok.inj hop
    exact Did.still h (fun w' _ => by simp [execOp, ho]) (hev x)
  | pick cd x y =>
    rw [ho] at hop
    simp only [op0] at hop
    have hc := hev cd
    split at hop
    · rename_i he
      obtain ⟨rfl, rfl⟩ := R.ok.inj hop
      rw [he] at hc
      simp only [RV, Bval_l, Bval_s] at hc
      exact Did.still h (fun w' _ => by simp [execOp, ho, hc, asBool]) (hev x)
    · rename_i he
      obtain ⟨rfl, rfl⟩ := R.ok.inj hop
      rw [he] at hc
      simp only [RV, Bval_l, Bval_s] at hc
      exact Did.still h (fun w' _ => by simp [execOp, ho, hc, asBool]) (hev y)
    · rename_i q he
      rw [he] at hc
      simp only [RV, Bval_l, Bval_s] at hc
      have hx := hev x
      have hy := hev y
      split at hop
      · rename_i z hxe hye
        obtain ⟨rfl, rfl⟩ := R.ok.inj hop
        rw [hxe] at hx
        rw [hye] at hy
        simp only [RV, Bval_l, Bval_s] at hx hy
        refine Did.still h (u := if q then .bool true else .bool z.val) (fun w' _ => by simp [execOp, ho, hc, asBool, hx, hy]) ?_
        simp only [RV, Bval_l, Bval_s]
        cases q <;> simp
      · rename_i z _ hxe hye
        obtain ⟨rfl, rfl⟩ := R.ok.inj hop
        rw [hxe] at hx
        rw [hye] at hy
        simp only [RV, Bval_l, Bval_s] at hx hy
        refine Did.still h (u := if q then .bool z.val else .bool false) (fun w' _ => by simp [execOp, ho, hc, asBool, hx, hy]) ?_
        simp only [RV, Bval_l, Bval_s]
        cases q <;> simp
      · cases hop
    · cases hop
  | alloc t =>
    rw [ho] at hop
    simp only [op0] at hop
    split at hop
    case isFalse => cases hop
    rename_i hok
    have fin : ∀ ct : Ctn, RCt c ct (T t).zero.cells.toList → 0 < ct.size → s' = { s with vars := s.vars ++ [⟨true, ct⟩] } → v = .lp s.vars.length 0 → Did P w0 fp c s s' a o v := fun ct h1 h2 e1 e2 => by
      subst e1 e2
      exact Did.of (f := Instr.alloc t true (.tuple #[])) (by simp only [execOp, ho]) (by rw [ho]; exact ⟨(fun h => by first | exact .inl rfl | exact .inr rfl | cases h), (by first | exact .inl rfl | exact .inr rfl)⟩) (alloc_sound hT h hok h1 h2)
    split at hop
    · rename_i q hq
      split at hq
      · obtain ⟨rfl, rfl⟩ := R.ok.inj hop
        exact fin (.pk q q.z) (by rw [(hT.tpOK hok hq).2.2.1]; exact q.zc_sound) q.size_pos rfl rfl
      · cases hq
    · split at hop
      · rename_i l hl
        split at hop
        · cases hop
        · rename_i hne
          obtain ⟨rfl, rfl⟩ := R.ok.inj hop
          exact fin (.ls l) ((RV.ofVal (c := c) (T t).zero).cells hl).1 (List.length_pos_iff.2 (by simpa using hne)) rfl rfl
      · cases hop
  | box t x =>
    rw [ho] at hop
    simp only [op0] at hop
    have hx := hev x
    have fin : ∀ ct : Ctn, RCt c ct (a.eval x).cells.toList → 0 < ct.size → s' = { s with vars := s.vars ++ [⟨true, ct⟩] } → v = .lp s.vars.length 0 → Did P w0 fp c s s' a o v := fun ct h1 h2 e1 e2 => by
      subst e1 e2
      exact Did.of (f := Instr.box t (a.eval x)) (by simp only [execOp, ho]) (by rw [ho]; exact ⟨(fun h => by first | exact .inl rfl | exact .inr rfl | cases h), (by first | exact .inl rfl | exact .inr rfl)⟩) (box_sound h h1 h2)
    split at hop
    · rename_i q e he
      obtain ⟨rfl, rfl⟩ := R.ok.inj hop
      rw [he] at hx
      simp only [RV] at hx
      obtain ⟨us, hu, hr⟩ := hx
      exact fin (.pk q e) (by rw [hu]; exact hr) q.size_pos rfl rfl
    · split at hop
      · rename_i l hl
        split at hop
        · cases hop
        · rename_i hne
          obtain ⟨rfl, rfl⟩ := R.ok.inj hop
          exact fin (.ls l) (hx.cells hl).1 (List.length_pos_iff.2 (by simpa using hne)) rfl rfl
      · cases hop
  | load t x =>
    rw [ho] at hop
    simp only [op0] at hop
    split at hop
    case isFalse => cases hop
    rename_i hok
    obtain ⟨rfl, u', h1, h2⟩ := load_sound hT h hok (hev x) hop
    exact Did.of (f := Instr.loadAt t (a.eval x)) (by simp only [execOp, ho]) (by rw [ho]; exact ⟨(fun h => by first | exact .inl rfl | exact .inr rfl | cases h), (by first | exact .inl rfl | exact .inr rfl)⟩) (h.still h1 h2)
  | nilCheck x =>
    rw [ho] at hop
    simp only [op0] at hop
    have hx := hev x
    have fin : ∀ ad, a.eval x = .pointer (some ad) → s' = s → RV c v (a.eval x) → Did P w0 fp c s s' a o v := fun ad e e1 hv => by
      subst e1
      exact Did.still h (fun w' _ => by simp [execOp, ho, e]; rfl) (by rw [← e]; exact hv)
    split at hop
    · rename_i he
      obtain ⟨rfl, rfl⟩ := R.ok.inj hop
      rw [he] at hx
      have hx' := hx
      simp only [RV] at hx'
      exact fin _ hx'.2 rfl hx
    · rename_i he
      obtain ⟨rfl, rfl⟩ := R.ok.inj hop
      rw [he] at hx
      have hx' := hx
      simp only [RV] at hx'
      obtain ⟨_, _, g, q, vs, e, _⟩ := hx'
      exact fin _ e rfl hx
    · rename_i he
      obtain ⟨rfl, rfl⟩ := R.ok.inj hop
      rw [he] at hx
      have hx' := hx
      simp only [RV] at hx'
      obtain ⟨_, g, q, n, cap, _, _, _, e⟩ := hx'
      exact fin _ e rfl hx
    · cases hop
  | fieldAddr t x f =>
    rw [ho] at hop
    simp only [op0] at hop
    split at hop
    · rename_i fs hd
      split at hop
      · rename_i off e hf
        obtain ⟨rfl, ht⟩ := fieldAddr_sound hT h (hev x) hd hf hop
        exact Did.of (f := Instr.fieldAt t (a.eval x) f) (by simp only [execOp, ho]) (by rw [ho]; exact ⟨(fun h => by first | exact .inl rfl | exact .inr rfl | cases h), (by first | exact .inl rfl | exact .inr rfl)⟩) ht
      · cases hop
    · cases hop
  | indexAddr t x ix =>
    rw [ho] at hop
    simp only [op0] at hop
    exact Did.of (f := Instr.indexAt t (a.eval x) (a.eval ix)) (by simp only [execOp, ho]) (by rw [ho]; exact ⟨(fun h => by first | exact .inl rfl | exact .inr rfl | cases h), (by first | exact .inl rfl | exact .inr rfl)⟩) (indexAddr_sound hT h (hev x) (hev ix) hop hn)
  | index t x ix =>
    rw [ho] at hop
    simp only [op0] at hop
    have hx := hev x
    have hix := hev ix
    split at hop
    · rename_i l k i n e hxe hie hde
      split at hop
      case isFalse => cases hop
      rename_i hcond
      obtain ⟨h0, h1, hfit, hok⟩ := hcond
      obtain ⟨rfl, rfl⟩ := R.ok.inj hop
      have hd := hT.desc t
      rw [hde] at hd
      have hd1 : P.underlying t = some (.array n e) := hd
      rw [hie] at hix
      obtain ⟨us, hus, hr⟩ := aggOf_sound hx hxe
      simp only [RV, I.val] at hix
      have hl := hr.length
      simp only [Array.length_toList] at hl
      refine Did.of (f := Instr.index t (a.eval x) (a.eval ix)) (by simp only [execOp, ho]) (by rw [ho]; exact ⟨(fun h => by first | exact .inl rfl | exact .inr rfl | cases h), (by first | exact .inl rfl | exact .inr rfl)⟩) (h.still (u := shapeU (T e) ((us.toList.drop (i.toNat * (T e).size)).take (T e).size)) ?_ (shapeD_sound (fun q hq => (hT.tpOK hok hq).2.1) ((hr.drop _).take _)))
      rw [hix, hus]
      intro w' _
      simp only [Instr.index, asIntOf, Sem.run_bind, Sem.run_pure, Result.andThen_ok, run_underlying hd1 w']
      rw [if_pos ⟨h0, h1⟩]
      simp only [Sem.run_bind, hT.run_size hok, Result.andThen_ok, part, hT.run_agg hok]
      unfold shapeU
      cases hg : aggTy (T e).d with
      | true =>
        simp only [if_true, Sem.run_bind, hT.run_size hok, Result.andThen_ok, Sem.run_pure]
        congr 2
        apply Array.ext'
        simp [Array.toList_extract, List.extract_eq_take_drop]
      | false =>
        have hs1 := (hT.ok e hok).one hg
        simp only [Bool.false_eq_true, if_false]
        have hlt : i.toNat * (T e).size < us.size := by omega
        rw [Array.getElem?_eq_getElem hlt]
        simp [hs1, List.getD]
        rw [hs1] at hlt
        simp at hlt
        simp [hlt]
    · cases hop
  | build t parts =>
    rw [ho] at hop
    obtain ⟨rfl, ht⟩ := build_sound hT h hop
    exact Did.of (f := Instr.build t (parts.map fun (i, x) => (i, a.eval x))) (by simp only [execOp, ho]) (by rw [ho]; exact ⟨(fun h => by first | exact .inl rfl | exact .inr rfl | cases h), (by first | exact .inl rfl | exact .inr rfl)⟩) ht
  | buildSlice t len parts =>
    rw [ho] at hop
    simp only [op0] at hop
    split at hop
    case h_2 => cases hop
    rename_i e hdt
    split at hop
    case h_2 => cases hop
    rename_i q hq
    split at hop
    case isFalse => cases hop
    rename_i hc
    simp only [Bool.and_eq_true, decide_eq_true_eq, beq_iff_eq] at hc
    split at hop
    case h_2 => cases hop
    rename_i l hl
    obtain ⟨rfl, rfl⟩ := R.ok.inj hop
    exact Did.of (f := Instr.buildSlice t len (parts.map fun (i, x) => (i, a.eval x))) (by simp only [execOp, ho]) (by rw [ho]; exact ⟨(fun h => by first | exact .inl rfl | exact .inr rfl | cases h), (by first | exact .inl rfl | exact .inr rfl)⟩) (buildSlice_sound hT h hdt hq hc.1.1 hc.1.2 hc.2 hl)
  | binOp b t x y yt =>
    rw [ho] at hop
    simp only [op0] at hop
    have hx := hev x
    have hy := hev y
    split at hop
    · rename_i k p k' q hxe hye
      split at hop
      case isFalse => cases hop
      rename_i hk
      split at hop
      case h_2 => cases hop
      rename_i ns hns
      obtain ⟨rfl, rfl⟩ := R.ok.inj hop
      rw [hxe] at hx
      rw [hye] at hy
      simp only [RV] at hx hy
      have hns' : needsOK ns := needsOK_left _ _ hn
      obtain ⟨u, hr, hv⟩ := run_binI (P := P) (c := c) b t x y k k' p q hk ns hns hns'
      refine Did.of (f := do eqGuard b t x y (a.eval x) (a.eval y); binOp b t (a.eval x) (a.eval y)) (by simp only [execOp, ho]) (by rw [ho]; exact ⟨(fun h => by first | exact .inl rfl | exact .inr rfl | cases h), (by first | exact .inl rfl | exact .inr rfl)⟩) (q := .free []) ((h.needs _).still ?_ hv)
      rw [hx, hy]
      exact fun w' _ => hr w'
    · rename_i z1 z2 hxe hye
      rw [hxe] at hx
      rw [hye] at hy
      simp only [RV] at hx hy
      split at hop
      · obtain ⟨rfl, rfl⟩ := R.ok.inj hop
        refine Did.of (f := do eqGuard .eql t x y (a.eval x) (a.eval y); binOp .eql t (a.eval x) (a.eval y)) (by simp only [execOp, ho]) (by rw [ho]; exact ⟨(fun h => by first | exact .inl rfl | exact .inr rfl | cases h), (by first | exact .inl rfl | exact .inr rfl)⟩) (h.still (u := .bool (z1.toList == z2.toList)) ?_ (by simp [RV, Bval_l, Bval_s, same_toList]))
        rw [hx, hy]
        intro w' _
        have hg : (eqGuard .eql t x y (.string z1) (.string z2)).run P w' = .ok () w' := rfl
        simp [hg, binOp, Op.stringOp]
      · obtain ⟨rfl, rfl⟩ := R.ok.inj hop
        refine Did.of (f := do eqGuard .neq t x y (a.eval x) (a.eval y); binOp .neq t (a.eval x) (a.eval y)) (by simp only [execOp, ho]) (by rw [ho]; exact ⟨(fun h => by first | exact .inl rfl | exact .inr rfl | cases h), (by first | exact .inl rfl | exact .inr rfl)⟩) (h.still (u := .bool (!(z1.toList == z2.toList))) ?_ (by simp [RV, Bval_l, Bval_s, same_toList]))
        rw [hx, hy]
        intro w' _
        have hg : (eqGuard .neq t x y (.string z1) (.string z2)).run P w' = .ok () w' := rfl
        simp [hg, binOp, Op.stringOp]
      · cases hop
    · cases hop
  | unOp b t x =>
    rw [ho] at hop
    have hx := hev x
    cases b with
    | not =>
      simp only [op0] at hop
      split at hop
      · rename_i b he
        obtain ⟨rfl, rfl⟩ := R.ok.inj hop
        rw [he] at hx
        simp only [RV] at hx
        exact Did.still h (u := .bool (!b.val)) (fun w' _ => by simp [execOp, ho, hx, Op.unary]) (by cases b <;> simp [RV, bNot, Bval_l, Bval_s])
      · cases hop
    | _ => cases hop
  | convert ta tb x =>
    rw [ho] at hop
    simp only [op0] at hop
    have hx := hev x
    have hd := hT.desc tb
    split at hop
    case isFalse => cases hop
    rename_i hok
    obtain ⟨da, hda⟩ : ∃ d, P.underlying ta = some d := by
      have := (hT.ok ta hok).agg
      cases hu : P.underlying ta with
      | none => simp [hu] at this
      | some d => exact ⟨d, rfl⟩
    split at hop
    · rename_i k n k' hxe hde
      obtain ⟨rfl, rfl⟩ := R.ok.inj hop
      rw [hde] at hd
      have hd1 : P.underlying tb = some (.int k') := hd
      rw [hxe] at hx
      simp only [RV, Ival_l] at hx
      exact Did.still h (u := .int k' (k'.wrap n)) (fun w' _ => by simp [execOp, ho, hx, convert, run_underlying hda, run_underlying hd1, Conv.intToInt]) (by simp [RV, Ival_l])
    · rename_i k n k' hxe hde
      obtain ⟨rfl, rfl⟩ := R.ok.inj hop
      rw [hde] at hd
      have hd1 : P.underlying tb = some (.int k') := hd
      rw [hxe] at hx
      simp only [RV, Ival_s] at hx
      exact Did.still h (u := .int k' (k'.wrap n)) (fun w' _ => by simp [execOp, ho, hx, convert, run_underlying hda, run_underlying hd1, Conv.intToInt]) (by simp [RV, Ival_s])
    · cases hop
  | extract x i =>
    rw [ho] at hop
    simp only [op0] at hop
    have hx := hev x
    split at hop
    · rename_i l he
      split at hop
      · rename_i v' hv
        obtain ⟨rfl, rfl⟩ := R.ok.inj hop
        rw [he] at hx
        simp only [RV] at hx
        obtain ⟨us, hus, hr⟩ := hx
        obtain ⟨u, hu, hq⟩ := hr.get i hv
        refine Did.still h (u := u) ?_ hq
        have hu' : us[i]? = some u := by simpa using hu
        simp [execOp, ho, hus, Instr.extract, hu']
      · cases hop
    · cases hop
  | call cl =>
    rw [ho] at hop
    obtain ⟨callee, args, argTypes⟩ := cl
    cases callee with
    | builtin b =>
      cases b with
      | len =>
        simp only [op0] at hop
        split at hop
        · rename_i x t hargs hats
          have ha : args = #[x] := by apply Array.ext'; simpa using hargs
          have hb : argTypes = #[t] := by apply Array.ext'; simpa using hats
          subst ha hb
          have hx := hev x
          split at hop
          · rename_i e hd
            obtain ⟨rfl, ht⟩ := len_sound hT (ty := o.type) h ⟨e, hd⟩ hx hop
            exact Did.of (f := Builtin.len_ #[t] o.type #[a.eval x]) (by simp [execOp, ho, resolve, invoke, builtin]) (by rw [ho]; exact ⟨(fun h => by first | exact .inl rfl | exact .inr rfl | cases h), (by first | exact .inl rfl | exact .inr rfl)⟩) ht
          · rename_i hd
            split at hop
            · rename_i z hz
              obtain ⟨rfl, rfl⟩ := R.ok.inj hop
              have hdt := hT.desc t
              rw [hd] at hdt
              have hd1 : P.underlying t = some .string := hdt
              rw [hz] at hx
              simp only [RV] at hx
              exact Did.still h (u := .int .i64 z.size) (fun w' _ => by simp [execOp, ho, resolve, invoke, builtin, hx, Builtin.len_, run_underlying hd1, goInt]) (by simp only [RV, Ival_s])
            · cases hop
          · cases hop
        · cases hop
      | append =>
        simp only [op0] at hop
        split at hop
        · rename_i x y t t' hargs hats
          have ha : args = #[x, y] := by apply Array.ext'; simpa using hargs
          have hb : argTypes = #[t, t'] := by apply Array.ext'; simpa using hats
          subst ha hb
          split at hop
          case isFalse => cases hop
          rename_i htt
          simp only [beq_iff_eq] at htt
          subst htt
          have ht := append_sound hT (ty := o.type) h (hev x) (hev y) hop hn
          exact Did.of (f := Builtin.append_ #[t, t] o.type #[a.eval x, a.eval y]) (by simp [execOp, ho, resolve, invoke, builtin]) (by rw [ho]; exact ⟨(fun h => by first | exact .inl rfl | exact .inr rfl | cases h), (by first | exact .inl rfl | exact .inr rfl)⟩) ht
        · cases hop
      | _ => cases hop
    | _ => cases hop
  | _ => rw [ho] at hop; cases hop

include hT in
theorem op_skip (h : Holds w0 fp c s a) {o : Oper} {s' : S} {t : TypeId} {x y : Operand} (ho : o.op = .store t x y) (hok : (T t).ok = true) (hop : opStore T s t (ev s x) (ev s y) = .skip s') : DidNone P w0 fp c s s' a o (readsV (ev s x)) := by
  have hev := RV.ev (c := c) (s := s) (a := a) h.tmps
  obtain ⟨c', hr, hh, hst⟩ := store_sound hT h hok (hev x) (hev y) hop
  exact ⟨c', by simp only [execOp, ho, Sem.run_bind, hr, Result.andThen_ok]; rfl, hh, hst⟩
end
end Go.Fx
