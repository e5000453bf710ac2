/- Still more operations. -/
import Derived.Test.YtlkmdighjgpdlaaFi
import Derived.Laws.MakeOwn
set_option linter.all false
namespace Go.Fx
open Go Go.RowKit
section
variable {P : Program} {T : TypeId → TI} (hT : TabOK P T) {w0 : World} {fp : Base} {c : C} {s : S} {a : Act}

theorem sameI_spec {x y : Operand} {p q : I} (h : sameI x y p q = true) (hx : ∀ i, x = .tmp i → y = .tmp i → p = q) : p.val = q.val := by
  unfold sameI at h
  split at h
  · simp only [beq_iff_eq] at h; subst h; rfl
  · simp only [beq_iff_eq] at h; subst h; rw [hx _ rfl rfl]
  · cases h
include hT in
theorem makeSlice_sound (h : Holds w0 fp c s a) {t e : TypeId} {n m : I} {k k' : IntKind} {q : Tp} (hdt : (T t).d = .slice e) (hq : (T e).tp = some q) (hok : (T e).ok = true) (hb : 0 < (T e).bytes) (hqs : q.size = (T e).size) (hnm : n.val = m.val) (hr : (Need.room n.val (T e).bytes).ok) :
    Tells P w0 fp c s { s with rows := s.rows ++ [⟨true, false, e, q, n, List.replicate (natI n) q.z⟩], needs := .room n.val (T e).bytes :: s.needs } a .make (fun w => (Instr.makeSlice t (.int k n.val) (.int k' m.val)).run P w) (.own s.rows.length) := by
  rw [← hnm]
  have hd := hT.desc t
  rw [hdt] at hd
  have hd1 : P.underlying t = some (.slice e) := hd
  have hs0 : 0 < (T e).size := by rw [← hqs]; exact q.size_pos
  obtain ⟨_, _, hzc, _⟩ := hT.tpOK hok hq
  have hzs := (hT.ok e hok).zsz
  have hinfo := (hT.ok e hok).info
  obtain ⟨i, hi, hie⟩ := Option.map_eq_some_iff.1 hinfo
  simp only [Prod.mk.injEq] at hie
  obtain ⟨hiz, his, hib⟩ := hie
  simp only [Need.ok] at hr
  obtain ⟨h0, h1⟩ := hr
  obtain ⟨N, hN⟩ := Int.eq_ofNat_of_zero_le h0
  have hnat : natI n = N := by rw [natI_val, hN]; rfl
  rw [hN] at h1 ⊢
  have hN1 : N ≤ 140737488355328 := by
    have : N * 1 ≤ N * (T e).bytes := Nat.mul_le_mul_left _ hb
    have h1' : ((N * (T e).bytes : Nat) : Int) ≤ 140737488355328 := by push_cast; exact h1
    omega
  have hrun := run_make (P := P) c.w t e i (T e).zero hd1 hi hiz k k' N N (Int.natCast_nonneg N) (Int.le_refl _) (by rw [hib, Int.mul_comm]; omega) (by omega)
  simp only [Int.toNat_natCast, his] at hrun
  have hlist : (madeCells (T e).zero.cells (N * (T e).size)).toList = (List.range N).flatMap fun _ => (T e).zero.cells.toList := by
    have : madeCells (T e).zero.cells (N * (T e).size) = (Array.range (N * (T e).size)).map (fun i => (T e).zero.cells[i % (T e).zero.cells.size]!) := rfl
    rw [this, zeros_flat _ N _ hzs hs0, zero_list _ _ hzs]
  have hz0 : RpL (Rp c q) (List.replicate N q.z) (madeCells (T e).zero.cells (N * (T e).size)).toList := by
    rw [hlist, hzc]
    exact RpL.replicate q.zc_sound N
  have hcap : N ≤ maxLen := by unfold maxLen; omega
  have hsz : (madeCells (T e).zero.cells (N * (T e).size)).size = N * (T e).size := size_madeCells _ _
  have hat : RowAt (c.w.alloc (.cells (madeCells (T e).zero.cells (N * (T e).size)) e)) false e q.size (.slice (some ⟨c.w.heap.size, 0, none⟩) N N) (List.replicate (natI n) q.z).length (madeCells (T e).zero.cells (N * (T e).size)).toList := by
    rw [hnat, List.length_replicate]
    refine ⟨by rw [hqs]; simpa using hsz, .inr (.inr ⟨c.w.heap.size, 0, N, rfl, Nat.le_refl _, hcap, ⟨_, e, heap_alloc_new c.w _, by simp, by rw [List.drop_zero, List.take_length]⟩, fun _ => ⟨rfl, _, heap_alloc_new c.w _, by rw [hsz, hqs]⟩⟩)⟩
  obtain ⟨le, hh⟩ := h.newRow (⟨true, false, e, q, n, List.replicate (natI n) q.z⟩ : Row) (v := .slice (some ⟨c.w.heap.size, 0, none⟩) N N) (w' := c.w.alloc (.cells (madeCells (T e).zero.cells (N * (T e).size)) e)) (us := (madeCells (T e).zero.cells (N * (T e).size)).toList) (Keeps.alloc _ _ _) hat (by rw [hnat]; simp [hN]) (by rw [hnat]; exact hz0)
    (fun k o hf => by simp only [rowF] at hf; rw [hf.1]; exact Nat.le_refl _)
  refine ⟨.slice (some ⟨c.w.heap.size, 0, none⟩) N N, c.newRow (.slice (some ⟨c.w.heap.size, 0, none⟩) N N) (c.w.alloc (.cells (madeCells (T e).zero.cells (N * (T e).size)) e)), hrun, hh.needs _, ?_, (fun _ h => by cases h), StepOK.newRow h (Keeps.alloc _ _ _) []⟩
  simp only [RV, C.newRow]
  exact ⟨by rw [h.nr]; omega, by rw [if_pos h.nr.symm], by rw [if_pos h.nr.symm]; rfl⟩
theorem intV_sound {v : V} {u : Value} {n : I} (h : RV c v u) (hv : intV v = some n) : ∃ k, u = .int k n.val := by
  unfold intV at hv
  split at hv
  · injection hv with e; subst e
    simp only [RV] at h
    exact ⟨_, h⟩
  · cases hv
theorem evs_RVs (h : RVs c s.tmps a.tmps.toList) (l : List Operand) : RVs c (l.map (ev s)) (l.map a.eval) := by
  induction l with
  | nil => exact .nil
  | cons x l ih => exact .cons (RV.ev h x) ih
theorem run_cutStr {t : TypeId} (hu : P.underlying t = some .string) {w : World} {p : ByteArray} {lo hi : Option Value} {l h : Int} (hlo : (lo = none ∧ l = 0) ∨ ∃ k, lo = some (.int k l)) (hhi : (hi = none ∧ h = p.size) ∨ ∃ k, hi = some (.int k h)) (h0 : 0 ≤ l) (h1 : l ≤ h) (h2 : h ≤ p.size) :
    (Instr.sliceAt t (.string p) lo hi none).run P w = .ok (.string (strCut p l h)) w := by
  obtain ⟨l, rfl⟩ := Int.eq_ofNat_of_zero_le h0
  obtain ⟨h, rfl⟩ := Int.eq_ofNat_of_zero_le (Int.le_trans h0 h1)
  have a1 : l ≤ h := by omega
  have a2 : h ≤ p.size := by omega
  rcases hlo with ⟨rfl, e⟩ | ⟨k, rfl⟩ <;> rcases hhi with ⟨rfl, e'⟩ | ⟨k', rfl⟩
  · obtain rfl : l = 0 := by omega
    obtain rfl : h = p.size := by omega
    simp [Instr.sliceAt, run_underlying hu, Instr.slice, Instr.sliceBounds, strCut]
  · obtain rfl : l = 0 := by omega
    simp [Instr.sliceAt, run_underlying hu, Instr.slice, Instr.sliceBounds, Instr.sliceBound, asIntOf, strCut, a2]
  · obtain rfl : h = p.size := by omega
    simp [Instr.sliceAt, run_underlying hu, Instr.slice, Instr.sliceBounds, Instr.sliceBound, asIntOf, strCut, a1]
  · simp [Instr.sliceAt, run_underlying hu, Instr.slice, Instr.sliceBounds, Instr.sliceBound, asIntOf, strCut, a1, a2]
theorem isNilP_sound {v : V} {u : Value} (h : RV c v u) (hv : isNilP v = true) : u = .pointer none := by
  unfold isNilP at hv
  split at hv
  · simpa only [RV] using h
  · cases hv
theorem isPtr_sound {v : V} {u : Value} (h : RV c v u) (hv : isPtr v = true) : ∃ ad, u = .pointer (some ad) := by
  cases v with
  | lp x o => simp only [RV] at h; exact ⟨_, h.2⟩
  | rp t l i j => simp only [RV] at h; obtain ⟨_, _, g, o, vs, e, _⟩ := h; exact ⟨_, e⟩
  | op r sz i j => simp only [RV] at h; obtain ⟨_, g, o, n, cap, _, _, _, e⟩ := h; exact ⟨_, e⟩
  | _ => cases hv
theorem equalIn_nilL {d : Nat} {t el : TypeId} (hu : P.underlying t = some (.pointer el)) (q : Option Addr) (w : World) : (Op.equalIn (d + 1) t (.pointer none) (.pointer q)).run P w = .ok q.isNone w := by
  simp [Op.equalIn, run_underlying hu]
theorem equalIn_nilR {d : Nat} {t el : TypeId} (hu : P.underlying t = some (.pointer el)) (p : Addr) (w : World) : (Op.equalIn (d + 1) t (.pointer (some p)) (.pointer none)).run P w = .ok false w := by
  simp [Op.equalIn, run_underlying hu]
theorem equal_nilL {t el : TypeId} (hu : P.underlying t = some (.pointer el)) (q : Option Addr) (w : World) : (Op.equal t (.pointer none) (.pointer q)).run P w = .ok q.isNone w := equalIn_nilL (d := 9999) hu q w
theorem equal_nilR {t el : TypeId} (hu : P.underlying t = some (.pointer el)) (p : Addr) (w : World) : (Op.equal t (.pointer (some p)) (.pointer none)).run P w = .ok false w := equalIn_nilR (d := 9999) hu p w
include hT in
theorem opY_sound (h : Holds w0 fp c s a) {o : Oper} {v : V} {s' : S} (hop : opY T s o.op = .ok v s') (hn : needsOK s'.needs) : Did P w0 fp c s s' a o v := by
  have hev : ∀ x : Operand, RV c (ev s x) (a.eval x) := fun x => RV.ev h.tmps x
  cases ho : o.op with
  | makeSlice t l cp =>
    rw [ho] at hop
    simp only [opY] at hop
    split at hop
    case h_2 => cases hop
    rename_i k n k' m e hl hc hd
    split at hop
    case h_2 => cases hop
    rename_i q hq
    split at hop
    case isFalse => cases hop
    rename_i hcond
    simp only [Bool.and_eq_true, decide_eq_true_eq, beq_iff_eq] at hcond
    obtain ⟨⟨⟨hok, hb⟩, hqs⟩, hsame⟩ := hcond
    obtain ⟨rfl, rfl⟩ := R.ok.inj hop
    have hx := hev l
    have hy := hev cp
    rw [hl] at hx
    rw [hc] at hy
    simp only [RV] at hx hy
    have hnm : n.val = m.val := sameI_spec hsame (fun i e1 e2 => by
      rw [e1] at hl; rw [e2] at hc; rw [hl] at hc; injection hc)
    refine Did.of (f := Instr.makeSlice t (a.eval l) (a.eval cp)) (by simp only [execOp, ho]) (q := .make) (by rw [ho]; exact ⟨(fun h => by cases h), .inl rfl⟩) ?_
    rw [hx, hy]
    exact makeSlice_sound hT h hd hq hok hb hqs hnm hn.1
  | makeFunc fn first caps =>
    rw [ho] at hop
    cases fn with
    | func f =>
      simp only [opY] at hop
      split at hop
      case isFalse => cases hop
      rename_i hf
      obtain ⟨rfl, rfl⟩ := R.ok.inj hop
      have hf' : first = #[] := by apply Array.ext'; simpa using hf
      subst hf'
      refine Did.still h (u := .func (.func f) #[] (caps.map a.eval)) (fun w' _ => by simp [execOp, ho, Instr.makeFunc]) ?_
      simp only [RV]
      exact ⟨_, rfl, by simpa using evs_RVs h.tmps caps.toList⟩
    | _ => cases hop
  | binOp b t x y yt =>
    rw [ho] at hop
    simp only [opY] at hop
    have hx := hev x
    have hy := hev y
    split at hop
    case h_2 =>
      split at hop
      case h_2 => cases hop
      rename_i el hd
      have hdt := hT.desc t
      rw [hd] at hdt
      have hu : P.underlying t = some (.pointer el) := hdt
      have key : ∀ b, nilEq (ev s x) (ev s y) = some b → ∃ p q, a.eval x = .pointer p ∧ a.eval y = .pointer q ∧ ∀ w' : World, (Op.equal t (.pointer p) (.pointer q)).run P w' = .ok b w' := fun b hb => by
        unfold nilEq at hb
        split at hb
        · rename_i hc
          simp only [Bool.and_eq_true] at hc
          obtain rfl := Option.some.inj hb
          have e1 := isNilP_sound hx hc.1
          have e2 := isNilP_sound hy hc.2
          exact ⟨none, none, e1, e2, fun w' => equal_nilL hu none w'⟩
        · split at hb
          · rename_i hc
            obtain rfl := Option.some.inj hb
            simp only [Bool.or_eq_true, Bool.and_eq_true] at hc
            rcases hc with ⟨c1, c2⟩ | ⟨c1, c2⟩
            · obtain ⟨ad, e2⟩ := isPtr_sound hy c2
              exact ⟨none, some ad, isNilP_sound hx c1, e2, fun w' => equal_nilL hu (some ad) w'⟩
            · obtain ⟨ad, e1⟩ := isPtr_sound hx c1
              exact ⟨some ad, none, e1, isNilP_sound hy c2, fun w' => equal_nilR hu ad w'⟩
          · cases hb
      split at hop
      case h_3 => cases hop
      · rename_i r hb
        obtain ⟨rfl, rfl⟩ := R.ok.inj hop
        obtain ⟨p, q, e1, e2, he⟩ := key _ hb
        exact Did.eql (r := r) h ho e1 e2 (fun w' o => by cases o <;> rfl) (.inl rfl) (fun w' => by simp [binOp, he]) (fun w' => by simp [binOp, he]) (by simp [RV, Bval_l])
      · rename_i r hb
        obtain ⟨rfl, rfl⟩ := R.ok.inj hop
        obtain ⟨p, q, e1, e2, he⟩ := key _ hb
        exact Did.eql (r := r) h ho e1 e2 (fun w' o => by cases o <;> rfl) (.inr rfl) (fun w' => by simp [binOp, he]) (fun w' => by simp [binOp, he]) (by simp [RV, Bval_l])
    rename_i p q hxe hye
    rw [hxe] at hx
    rw [hye] at hy
    simp only [RV] at hx hy
    split at hop
    case h_4 => cases hop
    · obtain ⟨rfl, rfl⟩ := R.ok.inj hop
      have hle := hn.1
      simp only [Need.ok] at hle
      refine Did.still (h.needs _) (u := .string (p ++ q)) (fun w' _ => ?_) (by simp only [RV])
      have : ¬ ((p.size : Int) + q.size > IntKind.i64.max) := by
        have : IntKind.i64.max = 9223372036854775807 := by decide
        rw [this]; omega
      simp [execOp, ho, hx, hy, eqGuard, binOp, Op.stringOp, this]
      omega
    · obtain ⟨rfl, rfl⟩ := R.ok.inj hop
      exact Did.still h (u := .bool (Op.bytesLess p.toList q.toList)) (fun w' _ => by simp [execOp, ho, hx, hy, eqGuard, binOp, Op.stringOp]) (by simp [RV, Bval_s])
    · obtain ⟨rfl, rfl⟩ := R.ok.inj hop
      exact Did.still h (u := .bool (!(Op.bytesLess p.toList q.toList))) (fun w' _ => by simp [execOp, ho, hx, hy, eqGuard, binOp, Op.stringOp]) (by simp [RV, Bval_s])
  | index t x i =>
    rw [ho] at hop
    simp only [opY] at hop
    split at hop
    case h_2 => cases hop
    rename_i p k n hd hxe hie
    obtain ⟨rfl, rfl⟩ := R.ok.inj hop
    have hx := hev x
    have hi := hev i
    rw [hxe] at hx
    rw [hie] at hi
    simp only [RV] at hx hi
    have hdt := hT.desc t
    rw [hd] at hdt
    have hu : P.underlying t = some .string := hdt
    have hle := hn.1
    simp only [Need.ok] at hle
    obtain ⟨m, hm⟩ := Int.eq_ofNat_of_zero_le hle.1
    rw [hm] at hle hi
    have hlt : m < p.size := by omega
    refine Did.still (h.needs _) (u := .int .u8 (strAt p n.val)) (fun w' _ => ?_) (by simp [RV, Ival_s])
    have hget : p[m]? = some (p.toList.getD m 0) := by
      have h2 : m < p.data.size := hlt
      rw [getElem?_pos p m hlt, bytes_toList, List.getD_eq_getElem?_getD, List.getElem?_eq_getElem (by simpa using h2), Option.getD_some]
      rfl
    simp [execOp, ho, hx, hi, Instr.index, asIntOf, run_underlying hu, hget, strAt, hm]
  | slice t x lo hi mx =>
    rw [ho] at hop
    cases mx with
    | some _ => simp [opY] at hop
    | none =>
      simp only [opY] at hop
      split at hop
      case h_2 => cases hop
      rename_i p hd hxe
      split at hop
      case h_2 => cases hop
      rename_i l hh hl hhi
      obtain ⟨rfl, rfl⟩ := R.ok.inj hop
      have hdt := hT.desc t
      rw [hd] at hdt
      have hu : P.underlying t = some .string := hdt
      obtain ⟨n1, n2, n3, _⟩ := hn
      simp only [Need.ok] at n1 n2 n3
      have hx := hev x
      rw [hxe] at hx
      simp only [RV] at hx
      have ho' : execOp a.eval o = (do pure (.value (← Instr.sliceAt t (a.eval x) (lo.map a.eval) (hi.map a.eval) none)) : Sem Next) := by
        cases lo <;> cases hi <;> simp [execOp, ho]
      refine Did.still (h.needs _) (u := .string (strCut p l.val hh.val)) (fun w' _ => ?_) (by simp only [RV])
      rw [ho', hx]
      have key := run_cutStr (P := P) hu (w := w') (p := p) (lo := lo.map a.eval) (hi := hi.map a.eval) (l := l.val) (h := hh.val) ?_ ?_ n1 n2 n3
      · simp [key]
      · cases lo with
        | none => injection hl with e; subst e; exact .inl ⟨rfl, rfl⟩
        | some y => obtain ⟨k, hk⟩ := intV_sound (hev y) hl; exact .inr ⟨k, by simp [hk]⟩
      · cases hi with
        | none => injection hhi with e; subst e; exact .inl ⟨rfl, rfl⟩
        | some y => obtain ⟨k, hk⟩ := intV_sound (hev y) hhi; exact .inr ⟨k, by simp [hk]⟩
  | _ => rw [ho] at hop; cases hop
include hT in
theorem op_sound (h : Holds w0 fp c s a) {o : Oper} {v : V} {s' : S} (hop : op T s o.op = .ok v s') (hn : needsOK s'.needs) : Did P w0 fp c s s' a o v := by
  unfold op at hop
  split at hop
  · split at hop
    · exact opY_sound hT h hop hn
    · exact opX_sound hT h hop hn
  · exact op0_sound hT h hop hn
end
end Go.Fx
