/- The machine's way through a function's code is the model's. -/
import Derived.Test.YtkhbodngiodklaaDxXb
set_option linter.all false
namespace Go.Dx
open Go Go.RowKit

def slim : Item → It
  | .code c => .code c
  | .inBlock id => .inBlock id
  | .inLoop c => .inLoop c
  | .inRegion ops is => .ops ops.toList (is.filterMap (ops[·]?))
  | _ => .code (.refuse "")

/-- From here on the call comes to an end that is as asked. -/
def Goes (P : Program) (f : FuncId) (R : Ending → World → Prop) (todo : List Item) (a : Act) (w : World) : Prop :=
  ∀ (b : Frame) (cs : List Frame), b.fn = f → b.kind = .normal → ∃ e w' fr, R e w' ∧ Comes P (lone (b.at a todo) cs w) (lone fr cs w') e ∧ fr.fn = f ∧ fr.leaving P w' e

section
variable {P : Program} {f : FuncId} {R : Ending → World → Prop} {todo todo' : List Item} {a a' : Act} {w w' : World}
theorem Goes.next (h : ∀ (b : Frame) (cs : List Frame), step P (lone (b.at a todo) cs w) = .next (lone (b.at a' todo') cs w')) (H : Goes P f R todo' a' w') : Goes P f R todo a w := by
  intro b cs hb hk
  obtain ⟨e, w2, fr, hR, hC, hf, hl⟩ := H b cs hb hk
  exact ⟨e, w2, fr, hR, Comes.of_steps (Steps.one (h b cs)) hC, hf, hl⟩

theorem Goes.ret {fn : Func} (hfn : P.funcs[f]? = some fn) {k : List Item} (hd : a.defers = []) {v : Value} (hr : (results fn a.tmps).run P w = .ok v w) (hR : R (.returned v) w) : Goes P f R (.code .ret :: k) a w := by
  intro b cs hb hk
  refine ⟨.returned v, w, { b.at a (.code .ret :: k) with mode := .returning }, hR, Steps.one step_ret, hb, rfl, hd, hk, fn, ?_, hr⟩
  simpa [Frame.at, hb] using hfn
theorem Goes.done {fn : Func} (hfn : P.funcs[f]? = some fn) (hd : a.defers = []) {v : Value} (hr : (results fn a.tmps).run P w = .ok v w) (hR : R (.returned v) w) : Goes P f R [] a w := by
  intro b cs hb hk
  refine ⟨.returned v, w, { b.at a [] with mode := .returning }, hR, Steps.one step_end, hb, rfl, hd, hk, fn, ?_, hr⟩
  simpa [Frame.at, hb] using hfn

variable {ops : Array Oper} {i : Nat} {rest : List Nat} {k : List Item} {o : Oper}
theorem Goes.opSkip (ho : ops[i]? = some o) (hw : Region.wanted o (yielded ops a.tmps) = false) (H : Goes P f R (.inRegion ops rest :: k) (a.put o.dst undef) w) : Goes P f R (.inRegion ops (i :: rest) :: k) a w := by
  refine Goes.next (fun b cs => ?_) H
  have := step_op_skip (P := P) (b := b) (a := a) (k := k) (cs := cs) (w := w) (ops := ops) (i := i) (rest := rest) (by simp [ho, hw])
  simpa [ho] using this
theorem Goes.opNone (ho : ops[i]? = none) (H : Goes P f R (.inRegion ops rest :: k) a w) : Goes P f R (.inRegion ops (i :: rest) :: k) a w := by
  refine Goes.next (fun b cs => ?_) H
  have := step_op_skip (P := P) (b := b) (a := a) (k := k) (cs := cs) (w := w) (ops := ops) (i := i) (rest := rest) (by simp [ho])
  simpa [ho, Act.put] using this
theorem Goes.opValue (ho : ops[i]? = some o) (hw : Region.wanted o (yielded ops a.tmps) = true) {v : Value} (hr : (execOp a.eval o).run P w = .ok (.value v) w') (H : Goes P f R (.inRegion ops rest :: k) (a.put o.dst v) w') :
    Goes P f R (.inRegion ops (i :: rest) :: k) a w := by
  refine Goes.next (fun b cs => step_lone_go ?_) H
  have hfin : (b.at a (.inRegion ops (i :: rest) :: k)).finish v = b.at (a.put o.dst v) (.inRegion ops rest :: k) := by rw [Frame.finish_at, ho]; rfl
  rw [stepG_op (P := P) (b := b) (k := k) (cs := cs) (w := w) (rest := rest) ho hw, ← hfin]
  simp [stepG.apply, hr]
theorem Goes.opDone (ho : ops[i]? = some o) (hw : Region.wanted o (yielded ops a.tmps) = true) (hr : (execOp a.eval o).run P w = .ok .skip w') (H : Goes P f R (.inRegion ops rest :: k) (a.put o.dst undef) w') :
    Goes P f R (.inRegion ops (i :: rest) :: k) a w := by
  refine Goes.next (fun b cs => step_lone_go ?_) H
  have hfin : (b.at a (.inRegion ops (i :: rest) :: k)).finish undef = b.at (a.put o.dst undef) (.inRegion ops rest :: k) := by rw [Frame.finish_at, ho]; rfl
  rw [stepG_op (P := P) (b := b) (k := k) (cs := cs) (w := w) (rest := rest) ho hw, ← hfin]
  simp [stepG.apply, hr]
theorem Goes.opCall (ho : ops[i]? = some o) (hw : Region.wanted o (yielded ops a.tmps) = true) {g : FuncId} {args : Array Value} (hr : (execOp a.eval o).run P w = .ok (.enter g args) w')
    (H : Calls P g args w' fun e w'' => ∃ v, e = .returned v ∧ Goes P f R (.inRegion ops rest :: k) (a.put o.dst v) w'') :
    Goes P f R (.inRegion ops (i :: rest) :: k) a w := by
  intro b cs hb hk
  have hg := stepG_op (P := P) (b := b) (k := k) (cs := cs) (w := w) (rest := rest) ho hw
  obtain ⟨e, w'', fr, ⟨v, rfl, hG⟩, hsteps, _, hleave⟩ := H (b.at a (.inRegion ops (i :: rest) :: k) :: cs)
  have henter : step P (lone (b.at a (.inRegion ops (i :: rest) :: k)) cs w) = .next (lone (Frame.enter P g args .normal) (b.at a (.inRegion ops (i :: rest) :: k) :: cs) w') :=
    step_lone_go (by rw [hg]; simp [stepG.apply, hr, Frame.at])
  have hfin : (b.at a (.inRegion ops (i :: rest) :: k)).finish v = b.at (a.put o.dst v) (.inRegion ops rest :: k) := by rw [Frame.finish_at, ho]; rfl
  obtain ⟨e2, w3, fr2, hR, hC, hf, hl⟩ := hG b cs hb hk
  refine ⟨e2, w3, fr2, hR, Comes.of_steps (.head henter (Steps.trans hsteps (.one ?_))) hC, hf, hl⟩
  rw [← hfin]
  exact step_leave_returned hleave

theorem Goes.loop {c : Code} (I : Act → World → Prop) (μ : Act → World → Nat) (h₀ : I a w)
    (round : ∀ a w, I a w → (∀ a' w', I a' w' → μ a' w' < μ a w → Goes P f R (.inLoop c :: k) a' w') → Goes P f R (.code c :: .inLoop c :: k) a w) : Goes P f R (.code (.loop c) :: k) a w := by
  refine Goes.next (fun b cs => step_loop) ?_
  have key : ∀ n a w, μ a w = n → I a w → Goes P f R (.code c :: .inLoop c :: k) a w := by
    intro n
    induction n using Nat.strongRecOn with
    | _ n ih =>
      intro a w hn hI
      refine round a w hI (fun a' w' hI' hlt => ?_)
      exact Goes.next (fun b cs => step_inLoop) (ih _ (hn ▸ hlt) a' w' rfl hI')
  exact key _ a w rfl h₀
end

/-- A call of a function is the way through its code. -/
theorem Calls.of_goes {P : Program} {f : FuncId} {fn : Func} {c : Code} {args : Array Value} {w : World} {R : Ending → World → Prop} (hf : P.funcs[f]? = some fn) (hb : fn.body = some c)
    (h : Goes P f R [.code c] { tmps := args ++ Array.replicate (fn.ntmps - args.size) undef, defers := [] } w) : Calls P f args w R := by
  intro cs
  let b : Frame := { (default : Frame) with fn := f, kind := .normal }
  have henter : Frame.enter P f args .normal = b.at { tmps := args ++ Array.replicate (fn.ntmps - args.size) undef, defers := [] } [.code c] := by
    simp [Frame.enter, Frame.at, hf, hb, b]
  obtain ⟨e, w', fr, hR, hC, hfr, hl⟩ := h b cs rfl rfl
  rw [← henter] at hC
  exact ⟨e, w', fr, hR, hC, hfr, hl⟩
end Go.Dx
