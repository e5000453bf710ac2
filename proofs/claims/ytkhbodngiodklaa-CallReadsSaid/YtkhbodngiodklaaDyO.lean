/- A law's contract, and what it says of a call of it. -/
import Derived.Test.YtkhbodngiodklaaDyW
import Derived.Below
import Derived.OpenShut
import Derived.ChangeOld
set_option linter.all false
namespace Go.Dx
open Go Go.RowKit
/-- What holds at a loop's head, of two numbers. -/
def Inv2 (P : Int → Int → Prop) : List U → Prop
  | [.i a, .i b] => P a b
  | _ => False
def mu2 (f : Int → Int → Nat) : List U → Nat
  | [.i a, .i b] => f a b
  | _ => 0
/-- A law: it answers yes. -/
def lawC (args : List Sh) (pre : List U → Prop) : Con := ⟨args, pre, [], fun _ _ => True, fun _ _ => .b (.l true), fun _ _ => []⟩
/-- All blocks of the world may be read. -/
abbrev inC (w : World) : C := argC w (fun b => b < w.heap.size)
theorem law_walk {P : Program} {g : FuncId} {args : List Sh} {pre : List U → Prop} (hk : (lawC args pre).ok P g) (us : List U) (hus : us.map U.kn = Sh.kns args) (hpre : pre us) (w : World) (vals : List Value) (h : RCs (inC w) (Sh.mks args us).1 vals) :
    Calls P g vals.toArray w fun e w' => e = .returned (.bool true) ∧ Below w.heap.size w w' := by
  refine (hk us hus hpre w (fun b => b < w.heap.size) vals (fun b h => h) h).mono ?_
  rintro e w' ⟨u, rfl, hs, ρ, ret, rows, ⟨os, _, _, rfl, rfl⟩, hr, _⟩
  simp only [lawC, RV, RC, B.val] at hr
  subst hr
  exact ⟨rfl, hs.os, hs.tape, hs.output, hs.size, hs.block⟩
end Go.Dx
