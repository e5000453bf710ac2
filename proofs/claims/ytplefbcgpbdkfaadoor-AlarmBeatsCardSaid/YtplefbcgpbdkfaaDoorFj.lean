/- Regions whose order is open; the machine's way through a function's code is the model's. -/
import Derived.Test.YtplefbcgpbdkfaaDoorFv
import Derived.OrdersHeld
set_option linter.all false
namespace Go.Fx
open Go

section
variable {P : Program} {ops : Array Oper} {Q : Exit → Act → World → Prop}

def closedL (ops : Array Oper) (listed : Array Bool) : Prop := ∀ (k : Nat) (ok : Oper), ops[k]? = some ok → listed.getD k false = true → ∀ e ∈ ok.after, Region.binds .any e = true → listed.getD e.on false = true
theorem closedB_spec {listed : Array Bool} (h : closedB ops listed = true) : closedL ops listed := fun k ok hk hl e he hb => by
  unfold closedB at h
  have h1 := List.all_eq_true.1 h k (List.mem_range.2 (Array.getElem?_eq_some_iff.1 hk).1)
  rw [hk, hl] at h1
  simp only [Bool.not_true, Bool.false_or, Option.map_some, Option.getD_some] at h1
  have := Array.all_eq_true'.1 h1 e he
  rw [hb] at this
  simpa using this
theorem closedL.set {listed : Array Bool} {j : Nat} (h : closedL ops listed) (hj : j ∈ Region.ready .any ops listed) : closedL ops (listed.setIfInBounds j true) := fun k ok hk hl e he hb => by
  by_cases hkj : j = k
  · subst hkj
    obtain ⟨_, oj, hoj, hall⟩ := mem_ready.1 hj
    obtain rfl := Option.some.inj (hk.symm.trans hoj)
    exact getD_set_true (hall e he hb)
  · rw [getD_set_ne false hkj] at hl
    exact getD_set_true (h k ok hk hl e he hb)
def goodA (ops : Array Oper) (listed : Array Bool) (acc : List (List Nat)) : Prop := ∀ (k : Nat) (l : List Nat), acc[k]? = some l → ∀ ok, ops[k]? = some ok → (∀ e ∈ ok.after, Region.binds .any e = true → listed.getD e.on false = true) → ∀ i ∈ l, listed.getD i false = true
theorem ancs_good {listed : Array Bool} (hc : closedL ops listed) : ∀ (r : List Oper) (acc : List (List Nat)) (pre : List Oper), ops.toList = pre ++ r → acc.length = pre.length → goodA ops listed acc → goodA ops listed (ancs r acc)
  | [], acc, pre, _, _, h => h
  | o :: r, acc, pre, he, hl, h => by
    refine ancs_good hc r _ (pre ++ [o]) (by rw [he]; simp) (by simp [hl]) ?_
    intro k l hk ok hok hdeps i hi
    rw [List.getElem?_append] at hk
    split at hk
    · exact h k l hk ok hok hdeps i hi
    · rename_i hge
      have hk0 : k - acc.length = 0 := by
        have := (List.getElem?_eq_some_iff.1 hk).1
        simp at this; omega
      rw [hk0] at hk
      simp only [List.getElem?_cons_zero, Option.some.injEq] at hk
      subst hk
      have hkl : k = pre.length := by
        omega
      have hoo : ok = o := by
        have : ops.toList[k]? = some ok := by simpa using hok
        rw [he, hkl] at this
        simpa using this.symm
      subst hoo
      rw [List.mem_eraseDups, List.mem_flatMap] at hi
      obtain ⟨e, he1, he2⟩ := hi
      rw [List.mem_filter] at he1
      have hem : e ∈ ok.after := by simpa using he1.1
      have hlst := hdeps e hem he1.2
      rcases List.mem_cons.1 he2 with rfl | he2
      · exact hlst
      · rw [List.getD_eq_getElem?_getD] at he2
        cases ha : acc[e.on]? with
        | none => rw [ha] at he2; simp at he2
        | some l' =>
          rw [ha] at he2
          have hlt : e.on < ops.size := by
            have h1 := (List.getElem?_eq_some_iff.1 ha).1
            have h2 : ops.toList.length = pre.length + (r.length + 1) := by rw [he]; simp
            simp at h2
            omega
          exact h e.on l' ha _ (Array.getElem?_eq_getElem hlt) (fun e' he' hb' => hc e.on _ (Array.getElem?_eq_getElem hlt) hlst e' he' hb') i (by simpa using he2)
theorem lastOp_spec {listed : Array Bool} {i j : Nat} (hc : closedL ops listed) (h : lastOp ops j = true) (hi : i ∈ Region.ready .any ops listed) (hj : j ∈ Region.ready .any ops listed) : i = j := by
  have good : goodA ops listed (ancs ops.toList []) := ancs_good hc _ [] [] (by simp) rfl (fun k l hk => by simp at hk)
  obtain ⟨ui, oi, hoi, di⟩ := mem_ready.1 hi
  obtain ⟨uj, oj, hoj, dj⟩ := mem_ready.1 hj
  have un : ∀ k, listed.getD k true = false → listed.getD k false = true → False := fun k h1 h2 => by
    rcases Nat.lt_or_ge k listed.size with h' | h'
    · simp [h'] at h1 h2; rw [h1] at h2; cases h2
    · simp [Array.getElem?_eq_none h'] at h1
  unfold lastOp at h
  have h1 := List.all_eq_true.1 h i (List.mem_range.2 (Array.getElem?_eq_some_iff.1 hoi).1)
  simp only [Bool.or_eq_true, beq_iff_eq, List.contains_iff_mem] at h1
  have get : ∀ k x, x ∈ (ancs ops.toList []).getD k [] → ∃ l, (ancs ops.toList [])[k]? = some l ∧ x ∈ l := fun k x hx => by
    rw [List.getD_eq_getElem?_getD] at hx
    cases ha : (ancs ops.toList [])[k]? with
    | none => rw [ha] at hx; simp at hx
    | some l => rw [ha] at hx; exact ⟨l, rfl, by simpa using hx⟩
  rcases h1 with h1 | h1 | h1
  · exact h1
  · obtain ⟨l, hl, hx⟩ := get _ _ h1
    exact (un i ui (good j l hl oj hoj dj i hx)).elim
  · obtain ⟨l, hl, hx⟩ := get _ _ h1
    exact (un j uj (good i l hl oi hoi di j hx)).elim

/-- Whatever order is picked from here on; behind each operation, but one that waits for all others, some places are as they were. -/
def wpE (P : Program) (ops : Array Oper) (Q : Exit → Act → World → Prop) : Nat → Foot → Array Bool → Act → World → Prop
  | 0, _, listed, a, w => Region.ready .any ops listed = [] ∧ Q .normal a w
  | n + 1, A, listed, a, w =>
    (Region.ready .any ops listed = [] → Q .normal a w) ∧
    ∀ i ∈ Region.ready .any ops listed, wpOp P ops Q i (fun a' w' => (AgreeOn A w w' ∧ wpE P ops Q n A (listed.setIfInBounds i true) a' w') ∨ (lastOp ops i = true ∧ wpE P ops Q n (fun _ _ => False) (listed.setIfInBounds i true) a' w')) a w
theorem wpAny_of_E : ∀ (n : Nat) (A : Foot) (listed : Array Bool) (a : Act) (w : World), wpE P ops Q n A listed a w → wpAny P .any ops Q n listed a w
  | 0, _, _, _, _, h => h
  | n + 1, _, _, _, _, h => ⟨h.1, fun i hi => wpOp_mono (fun a' w' h' => by
      rcases h' with ⟨_, h'⟩ | ⟨_, h'⟩
      · exact wpAny_of_E n _ _ a' w' h'
      · exact wpAny_of_E n _ _ a' w' h') (h.2 i hi)⟩
theorem wpE_mono : ∀ (n : Nat) {A B : Foot} (hb : ∀ k o, B k o → A k o) (listed : Array Bool) (a : Act) (w : World), wpE P ops Q n A listed a w → wpE P ops Q n B listed a w
  | 0, _, _, _, _, _, _, h => h
  | n + 1, _, _, hb, _, _, _, h => ⟨h.1, fun i hi => wpOp_mono (fun a' w' h' => h'.imp (fun ⟨q1, q2⟩ => ⟨q1.mono hb, wpE_mono n hb _ _ _ q2⟩) id) (h.2 i hi)⟩

theorem YieldsIf.mono {S S' : World → Prop} {o : Oper} {v : Value} {a : Act} (h : YieldsIf P ops S o v a) (hs : ∀ w, S' w → S w) : YieldsIf P ops S' o v a :=
  h.imp (fun ⟨h1, h2⟩ => ⟨h1, fun w hw => h2 w (hs w hw)⟩) id

theorem wpE_first {i : Nat} {oi : Oper} {v : Value} {B : Foot} (hi : ops[i]? = some oi) (hsel : Region.noSelect ops = true) (hQ : ∀ c a w, ¬ Q (.panic c) a w) :
    ∀ (n : Nat) (A : Foot) (listed : Array Bool) (a : Act) (w : World), closedL ops listed →
      (∀ j oj, ops[j]? = some oj → j ≠ i → listed.getD j true = false → (∀ e ∈ oj.after, Region.binds .any e = true → e.on ≠ i) → oi.apart ops oj = true) →
      i ∈ Region.ready .any ops listed → YieldsIf P ops (AgreeOn B w) oi v a →
      wpE P ops Q n (fun k o => A k o ∨ B k o) (listed.setIfInBounds i true) (a.put oi.dst v) w → wpE P ops Q (n + 1) A listed a w := by
  intro n
  induction n with
  | zero =>
    intro A listed a w _ _ hr hy H
    refine ⟨fun h => (by rw [h] at hr; cases hr), fun j hj => ?_⟩
    by_cases hji : j = i
    · subst hji; exact hy.wpOp hi (AgreeOn.refl _ w) (.inl ⟨AgreeOn.refl _ w, H⟩)
    · have := ready_mono hj hji
      rw [H.1] at this
      cases this
  | succ n ih =>
    intro A listed a w hcl hfree hr hy H
    refine ⟨fun h => (by rw [h] at hr; cases hr), fun j hj => ?_⟩
    by_cases hji : j = i
    · subst hji; exact hy.wpOp hi (AgreeOn.refl _ w) (.inl ⟨AgreeOn.refl _ w, wpE_mono _ (fun _ _ h => .inl h) _ _ _ H⟩)
    · have h1 := H.2 j (ready_mono hj hji)
      obtain ⟨hjun, oj, hoj, hall⟩ := mem_ready.1 hj
      have hnot : ∀ e ∈ oj.after, Region.binds .any e = true → e.on ≠ i := fun e he hb heq => by
        have h1 := hall e he hb
        have h0 := (mem_ready.1 hr).1
        rw [heq] at h1
        rcases Nat.lt_or_ge i listed.size with h' | h'
        · simp [h'] at h0 h1; rw [h0] at h1; cases h1
        · simp [Array.getElem?_eq_none h'] at h1
      have hlast : lastOp ops j = false := by
        cases hl : lastOp ops j with
        | false => rfl
        | true => exact absurd (lastOp_spec hcl hl hr hj).symm hji
      have h2 := wpOp_putIf hoj (hfree j oj hoj hji hjun hnot) (fun cs b => Region.noSelect_spec hsel i oi cs b hi) (fun cs b => Region.noSelect_spec hsel j oj cs b hoj) (fun c a w hp => absurd hp (hQ _ _ _)) hy h1
      have hfree' : ∀ k ok, ops[k]? = some ok → k ≠ i → (listed.setIfInBounds j true).getD k true = false →
          (∀ e ∈ ok.after, Region.binds .any e = true → e.on ≠ i) → oi.apart ops ok = true := fun k ok hk hki hun hno => by
        refine hfree k ok hk hki ?_ hno
        by_cases hjk : j = k
        · subst hjk; exact hjun
        · rw [getD_set_ne true hjk] at hun; exact hun
      refine wpOp_mono (fun a' w' h3 => ?_) h2
      obtain ⟨hy', hx⟩ := h3
      rcases hx with ⟨hx, hrest⟩ | ⟨hx, _⟩
      · refine .inl ⟨hx.mono (fun _ _ h => .inl h), ih A (listed.setIfInBounds j true) a' w' (hcl.set hj) hfree' (ready_mono hr (Ne.symm hji)) (YieldsIf.mono hy' fun w'' hw => (hx.mono (fun _ _ h => .inr h)).trans hw) ?_⟩
        rw [Array.setIfInBounds_comm _ _ hji]
        exact hrest
      · rw [hlast] at hx; cases hx
end

def slim : Item → It
  | .code c => .code c
  | .inBlock id => .inBlock id
  | .inLoop c => .inLoop c
  | .inRegion ops is => .ops ops.toList (is.filterMap (ops[·]?))
  | _ => .code (.refuse "")

/-- From here on the call comes to an end that is as asked. -/
def Goes (P : Program) (f : FuncId) (R : Ending → World → Prop) (todo : List Item) (a : Act) (w : World) : Prop :=
  ∀ (b : Frame) (cs : List Frame), b.fn = f → b.kind = .normal → ∃ e w' fr, R e w' ∧ Comes P (lone (b.at a todo) cs w) (lone fr cs w') e ∧ fr.fn = f ∧ fr.leaving P w' e

section
variable {P : Program} {f : FuncId} {R : Ending → World → Prop} {todo todo' : List Item} {a a' : Act} {w w' : World}
theorem Goes.next (h : ∀ (b : Frame) (cs : List Frame), step P (lone (b.at a todo) cs w) = .next (lone (b.at a' todo') cs w')) (H : Goes P f R todo' a' w') : Goes P f R todo a w := by
  intro b cs hb hk
  obtain ⟨e, w2, fr, hR, hC, hf, hl⟩ := H b cs hb hk
  exact ⟨e, w2, fr, hR, Comes.of_steps (Steps.one (h b cs)) hC, hf, hl⟩

theorem Goes.ret {fn : Func} (hfn : P.funcs[f]? = some fn) {k : List Item} (hd : a.defers = []) {v : Value} (hr : (results fn a.tmps).run P w = .ok v w) (hR : R (.returned v) w) : Goes P f R (.code .ret :: k) a w := by
  intro b cs hb hk
  refine ⟨.returned v, w, { b.at a (.code .ret :: k) with mode := .returning }, hR, Steps.one step_ret, hb, rfl, hd, hk, fn, ?_, hr⟩
  simpa [Frame.at, hb] using hfn
theorem Goes.done {fn : Func} (hfn : P.funcs[f]? = some fn) (hd : a.defers = []) {v : Value} (hr : (results fn a.tmps).run P w = .ok v w) (hR : R (.returned v) w) : Goes P f R [] a w := by
  intro b cs hb hk
  refine ⟨.returned v, w, { b.at a [] with mode := .returning }, hR, Steps.one step_end, hb, rfl, hd, hk, fn, ?_, hr⟩
  simpa [Frame.at, hb] using hfn

variable {ops : Array Oper} {i : Nat} {rest : List Nat} {k : List Item} {o : Oper}
theorem Goes.opSkip (ho : ops[i]? = some o) (hw : Region.wanted o (yielded ops a.tmps) = false) (H : Goes P f R (.inRegion ops rest :: k) (a.put o.dst undef) w) : Goes P f R (.inRegion ops (i :: rest) :: k) a w := by
  refine Goes.next (fun b cs => ?_) H
  have := step_op_skip (P := P) (b := b) (a := a) (k := k) (cs := cs) (w := w) (ops := ops) (i := i) (rest := rest) (by simp [ho, hw])
  simpa [ho] using this
theorem Goes.opNone (ho : ops[i]? = none) (H : Goes P f R (.inRegion ops rest :: k) a w) : Goes P f R (.inRegion ops (i :: rest) :: k) a w := by
  refine Goes.next (fun b cs => ?_) H
  have := step_op_skip (P := P) (b := b) (a := a) (k := k) (cs := cs) (w := w) (ops := ops) (i := i) (rest := rest) (by simp [ho])
  simpa [ho, Act.put] using this
theorem Goes.opValue (ho : ops[i]? = some o) (hw : Region.wanted o (yielded ops a.tmps) = true) {v : Value} (hr : (execOp a.eval o).run P w = .ok (.value v) w') (H : Goes P f R (.inRegion ops rest :: k) (a.put o.dst v) w') :
    Goes P f R (.inRegion ops (i :: rest) :: k) a w := by
  refine Goes.next (fun b cs => step_lone_go ?_) H
  have hfin : (b.at a (.inRegion ops (i :: rest) :: k)).finish v = b.at (a.put o.dst v) (.inRegion ops rest :: k) := by rw [Frame.finish_at, ho]; rfl
  rw [stepG_op (P := P) (b := b) (k := k) (cs := cs) (w := w) (rest := rest) ho hw, ← hfin]
  simp [stepG.apply, hr]
theorem Goes.opDone (ho : ops[i]? = some o) (hw : Region.wanted o (yielded ops a.tmps) = true) (hr : (execOp a.eval o).run P w = .ok .skip w') (H : Goes P f R (.inRegion ops rest :: k) (a.put o.dst undef) w') :
    Goes P f R (.inRegion ops (i :: rest) :: k) a w := by
  refine Goes.next (fun b cs => step_lone_go ?_) H
  have hfin : (b.at a (.inRegion ops (i :: rest) :: k)).finish undef = b.at (a.put o.dst undef) (.inRegion ops rest :: k) := by rw [Frame.finish_at, ho]; rfl
  rw [stepG_op (P := P) (b := b) (k := k) (cs := cs) (w := w) (rest := rest) ho hw, ← hfin]
  simp [stepG.apply, hr]
theorem Goes.opCall (ho : ops[i]? = some o) (hw : Region.wanted o (yielded ops a.tmps) = true) {g : FuncId} {args : Array Value} (hr : (execOp a.eval o).run P w = .ok (.enter g args) w')
    (H : Calls P g args w' fun e w'' => ∃ v, e = .returned v ∧ Goes P f R (.inRegion ops rest :: k) (a.put o.dst v) w'') :
    Goes P f R (.inRegion ops (i :: rest) :: k) a w := by
  intro b cs hb hk
  have hg := stepG_op (P := P) (b := b) (k := k) (cs := cs) (w := w) (rest := rest) ho hw
  obtain ⟨e, w'', fr, ⟨v, rfl, hG⟩, hsteps, _, hleave⟩ := H (b.at a (.inRegion ops (i :: rest) :: k) :: cs)
  have henter : step P (lone (b.at a (.inRegion ops (i :: rest) :: k)) cs w) = .next (lone (Frame.enter P g args .normal) (b.at a (.inRegion ops (i :: rest) :: k) :: cs) w') :=
    step_lone_go (by rw [hg]; simp [stepG.apply, hr, Frame.at])
  have hfin : (b.at a (.inRegion ops (i :: rest) :: k)).finish v = b.at (a.put o.dst v) (.inRegion ops rest :: k) := by rw [Frame.finish_at, ho]; rfl
  obtain ⟨e2, w3, fr2, hR, hC, hf, hl⟩ := hG b cs hb hk
  refine ⟨e2, w3, fr2, hR, Comes.of_steps (.head henter (Steps.trans hsteps (.one ?_))) hC, hf, hl⟩
  rw [← hfin]
  exact step_leave_returned hleave

theorem Goes.loop {c : Code} (I : Act → World → Prop) (μ : Act → World → Nat) (h₀ : I a w)
    (round : ∀ a w, I a w → (∀ a' w', I a' w' → μ a' w' < μ a w → Goes P f R (.inLoop c :: k) a' w') → Goes P f R (.code c :: .inLoop c :: k) a w) : Goes P f R (.code (.loop c) :: k) a w := by
  refine Goes.next (fun b cs => step_loop) ?_
  have key : ∀ n a w, μ a w = n → I a w → Goes P f R (.code c :: .inLoop c :: k) a w := by
    intro n
    induction n using Nat.strongRecOn with
    | _ n ih =>
      intro a w hn hI
      refine round a w hI (fun a' w' hI' hlt => ?_)
      exact Goes.next (fun b cs => step_inLoop) (ih _ (hn ▸ hlt) a' w' rfl hI')
  exact key _ a w rfl h₀
end

/-- A call of a function is the way through its code. -/
theorem Calls.of_goes {P : Program} {f : FuncId} {fn : Func} {c : Code} {args : Array Value} {w : World} {R : Ending → World → Prop} (hf : P.funcs[f]? = some fn) (hb : fn.body = some c)
    (h : Goes P f R [.code c] { tmps := args ++ Array.replicate (fn.ntmps - args.size) undef, defers := [] } w) : Calls P f args w R := by
  intro cs
  let b : Frame := { (default : Frame) with fn := f, kind := .normal }
  have henter : Frame.enter P f args .normal = b.at { tmps := args ++ Array.replicate (fn.ntmps - args.size) undef, defers := [] } [.code c] := by
    simp [Frame.enter, Frame.at, hf, hb, b]
  obtain ⟨e, w', fr, hR, hC, hfr, hl⟩ := h b cs rfl rfl
  rw [← henter] at hC
  exact ⟨e, w', fr, hR, hC, hfr, hl⟩
end Go.Fx
