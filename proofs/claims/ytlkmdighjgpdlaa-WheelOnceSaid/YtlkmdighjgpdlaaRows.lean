/-
  No cell of these rows narrows 'for every input' (looked for: loops, veiled, ifaces, maps, wideKeys, modest, calm, conditions, laid).
  DERIVED. THE GIVEN ROWS OF THIS SEAT. 7 by the template 'for every input the law returns true; each argument reads behind the call as it read before'; 0 by the template 'total and deterministic' (their statements: YtlkmdighjgpdlaaTotals.lean).
  GIVEN WITH THE SEED: the statements are not yours to turn. If you find one false, say at which input.
  Laid BY PROGRAM, IN A SANDBOX (cutbox-rows.mjs): the forced cells as the released guide's own fill.sh prints them over the translation 206100dcbb764476… (all of the seat's roots in one cut). By AI agents, Wed Nov 11 2026. No macro, syntax, notation, axiom, sorry.
-/
import Derived.Test.YtlkmdighjgpdlaaChecked
import GoSem.Claim
import GoSem.ClaimJoined
import GoSem.ClaimMapViews
import Derived.JoinedTies
import Derived.KernelRfl
namespace Go.Proofs.Ytlkmdighjgpdlaa
/- THE CELL 'sum', in the pinned program and in every row, IS THE sha256 OF THE DUMP (.gsa) THAT YtlkmdighjgpdlaaProg.lean LOADS. Nothing in Lean hashes anything: it is a label: what it is worth is what the hold of that sum in a sandbox is worth. -/
noncomputable def Try.pinned : Pinned := { name := "ytlkmdighjgpdlaa", sum := "206100dcbb764476a231cd57e1c5d354013382ec74f4b801770f71f6aa8300d8", checked := Try.checked }
namespace Rows
def none {H : Type} : Left H := { results := [], args := [] }

/-- 'nightjarlaw07.WheelPlays': WHATEVER THE INPUT: true; the input reads as it did. -/
def wheelPlaysSpec : ChangeSpec := { name := "wheelPlays", fn := fun _ => fun
  | [d1, d2, d3, d4] => { results := [.lit (.bool true)], args := [d1, d2, d3, d4] }
  | _ => none }
def wheelPlaysRow : OpenClaim := { program := "ytlkmdighjgpdlaa", sum := "206100dcbb764476a231cd57e1c5d354013382ec74f4b801770f71f6aa8300d8", func := "nightjar/nightjarlaw07.WheelPlays", spec := "wheelPlays", unfollowed := true, recurses := true, apart := false }
def WheelPlaysSaid : Prop := wheelPlaysRow.holds Try.pinned (OpenSpec.ofChange wheelPlaysSpec)

/-- ITS FALSE NEIGHBOUR: 'it returns false'. Refute it at one input. -/
def wheelPlaysWrong : ChangeSpec := { name := "wheelPlays", fn := fun _ => fun
  | [d1, d2, d3, d4] => { results := [.lit (.bool false)], args := [d1, d2, d3, d4] }
  | _ => none }
def WheelPlaysWrongFalsely : Prop := wheelPlaysRow.holds Try.pinned (OpenSpec.ofChange wheelPlaysWrong)

/-- 'nightjarlaw07.WheelOnce': WHATEVER THE INPUT: true; the input reads as it did. -/
def wheelOnceSpec : ChangeSpec := { name := "wheelOnce", fn := fun _ => fun
  | [d1, d2, d3] => { results := [.lit (.bool true)], args := [d1, d2, d3] }
  | _ => none }
def wheelOnceRow : OpenClaim := { program := "ytlkmdighjgpdlaa", sum := "206100dcbb764476a231cd57e1c5d354013382ec74f4b801770f71f6aa8300d8", func := "nightjar/nightjarlaw07.WheelOnce", spec := "wheelOnce", unfollowed := true, recurses := true, apart := false }
def WheelOnceSaid : Prop := wheelOnceRow.holds Try.pinned (OpenSpec.ofChange wheelOnceSpec)

/-- ITS FALSE NEIGHBOUR: 'it returns false'. Refute it at one input. -/
def wheelOnceWrong : ChangeSpec := { name := "wheelOnce", fn := fun _ => fun
  | [d1, d2, d3] => { results := [.lit (.bool false)], args := [d1, d2, d3] }
  | _ => none }
def WheelOnceWrongFalsely : Prop := wheelOnceRow.holds Try.pinned (OpenSpec.ofChange wheelOnceWrong)

/-- 'nightjarlaw07.WheelCuts': WHATEVER THE INPUT: true; the input reads as it did. -/
def wheelCutsSpec : ChangeSpec := { name := "wheelCuts", fn := fun _ => fun
  | [d1, d2, d3, d4] => { results := [.lit (.bool true)], args := [d1, d2, d3, d4] }
  | _ => none }
def wheelCutsRow : OpenClaim := { program := "ytlkmdighjgpdlaa", sum := "206100dcbb764476a231cd57e1c5d354013382ec74f4b801770f71f6aa8300d8", func := "nightjar/nightjarlaw07.WheelCuts", spec := "wheelCuts", unfollowed := true, recurses := true, apart := false }
def WheelCutsSaid : Prop := wheelCutsRow.holds Try.pinned (OpenSpec.ofChange wheelCutsSpec)

/-- ITS FALSE NEIGHBOUR: 'it returns false'. Refute it at one input. -/
def wheelCutsWrong : ChangeSpec := { name := "wheelCuts", fn := fun _ => fun
  | [d1, d2, d3, d4] => { results := [.lit (.bool false)], args := [d1, d2, d3, d4] }
  | _ => none }
def WheelCutsWrongFalsely : Prop := wheelCutsRow.holds Try.pinned (OpenSpec.ofChange wheelCutsWrong)

/-- 'nightjarlaw07.WheelLets': WHATEVER THE INPUT: true; the input reads as it did. -/
def wheelLetsSpec : ChangeSpec := { name := "wheelLets", fn := fun _ => fun
  | [d1, d2, d3, d4] => { results := [.lit (.bool true)], args := [d1, d2, d3, d4] }
  | _ => none }
def wheelLetsRow : OpenClaim := { program := "ytlkmdighjgpdlaa", sum := "206100dcbb764476a231cd57e1c5d354013382ec74f4b801770f71f6aa8300d8", func := "nightjar/nightjarlaw07.WheelLets", spec := "wheelLets", unfollowed := true, recurses := true, apart := false }
def WheelLetsSaid : Prop := wheelLetsRow.holds Try.pinned (OpenSpec.ofChange wheelLetsSpec)

/-- ITS FALSE NEIGHBOUR: 'it returns false'. Refute it at one input. -/
def wheelLetsWrong : ChangeSpec := { name := "wheelLets", fn := fun _ => fun
  | [d1, d2, d3, d4] => { results := [.lit (.bool false)], args := [d1, d2, d3, d4] }
  | _ => none }
def WheelLetsWrongFalsely : Prop := wheelLetsRow.holds Try.pinned (OpenSpec.ofChange wheelLetsWrong)

/-- 'nightjarlaw07.WheelTurns': WHATEVER THE INPUT: true; the input reads as it did. -/
def wheelTurnsSpec : ChangeSpec := { name := "wheelTurns", fn := fun _ => fun
  | [d1, d2, d3] => { results := [.lit (.bool true)], args := [d1, d2, d3] }
  | _ => none }
def wheelTurnsRow : OpenClaim := { program := "ytlkmdighjgpdlaa", sum := "206100dcbb764476a231cd57e1c5d354013382ec74f4b801770f71f6aa8300d8", func := "nightjar/nightjarlaw07.WheelTurns", spec := "wheelTurns", unfollowed := true, recurses := true, apart := false }
def WheelTurnsSaid : Prop := wheelTurnsRow.holds Try.pinned (OpenSpec.ofChange wheelTurnsSpec)

/-- ITS FALSE NEIGHBOUR: 'it returns false'. Refute it at one input. -/
def wheelTurnsWrong : ChangeSpec := { name := "wheelTurns", fn := fun _ => fun
  | [d1, d2, d3] => { results := [.lit (.bool false)], args := [d1, d2, d3] }
  | _ => none }
def WheelTurnsWrongFalsely : Prop := wheelTurnsRow.holds Try.pinned (OpenSpec.ofChange wheelTurnsWrong)

/-- 'nightjarlaw07.WheelTicks': WHATEVER THE INPUT: true; the input reads as it did. -/
def wheelTicksSpec : ChangeSpec := { name := "wheelTicks", fn := fun _ => fun
  | [d1, d2] => { results := [.lit (.bool true)], args := [d1, d2] }
  | _ => none }
def wheelTicksRow : OpenClaim := { program := "ytlkmdighjgpdlaa", sum := "206100dcbb764476a231cd57e1c5d354013382ec74f4b801770f71f6aa8300d8", func := "nightjar/nightjarlaw07.WheelTicks", spec := "wheelTicks", unfollowed := true, recurses := true, apart := false }
def WheelTicksSaid : Prop := wheelTicksRow.holds Try.pinned (OpenSpec.ofChange wheelTicksSpec)

/-- ITS FALSE NEIGHBOUR: 'it returns false'. Refute it at one input. -/
def wheelTicksWrong : ChangeSpec := { name := "wheelTicks", fn := fun _ => fun
  | [d1, d2] => { results := [.lit (.bool false)], args := [d1, d2] }
  | _ => none }
def WheelTicksWrongFalsely : Prop := wheelTicksRow.holds Try.pinned (OpenSpec.ofChange wheelTicksWrong)

/-- 'nightjarlaw07.WheelFar': WHATEVER THE INPUT: true; the input reads as it did. -/
def wheelFarSpec : ChangeSpec := { name := "wheelFar", fn := fun _ => fun
  | [d1, d2, d3] => { results := [.lit (.bool true)], args := [d1, d2, d3] }
  | _ => none }
def wheelFarRow : OpenClaim := { program := "ytlkmdighjgpdlaa", sum := "206100dcbb764476a231cd57e1c5d354013382ec74f4b801770f71f6aa8300d8", func := "nightjar/nightjarlaw07.WheelFar", spec := "wheelFar", unfollowed := true, recurses := true, apart := false }
def WheelFarSaid : Prop := wheelFarRow.holds Try.pinned (OpenSpec.ofChange wheelFarSpec)

/-- ITS FALSE NEIGHBOUR: 'it returns false'. Refute it at one input. -/
def wheelFarWrong : ChangeSpec := { name := "wheelFar", fn := fun _ => fun
  | [d1, d2, d3] => { results := [.lit (.bool false)], args := [d1, d2, d3] }
  | _ => none }
def WheelFarWrongFalsely : Prop := wheelFarRow.holds Try.pinned (OpenSpec.ofChange wheelFarWrong)

/- THE SECOND FORM. 'bulk': how many values and letters a reading holds, each counted each time it is reached (what is shared counts as often as it is met; a slice's spare places count too). A statement '..UptoSaid' is the law's where the arguments, and the package variables that the reading takes, are together of bulk at most 1048576: NARROWER than '..Said'. Prove '..Said' where nothing that the law and all that it calls make is longer than what came in: it says more and counts as full. Else prove '..UptoSaid'. A law counts once. -/
mutual
def uptoBulk {H : Type} : DataW H → Nat
  | .lit (.string bytes) => bytes.length + 1
  | .lit _ => 1
  | .nil => 1
  | .ptr d => uptoBulk d + 1
  | .slice elems spare => uptoBulkAll elems + uptoBulkAll spare + 1
  | .agg parts => uptoBulkAll parts + 1
  | .iface _ d => uptoBulk d + 1
  | .map entries => uptoBulkEntries entries + 1
  | .held _ => 1
def uptoBulkAll {H : Type} : List (DataW H) → Nat
  | [] => 0
  | d :: r => uptoBulk d + uptoBulkAll r
def uptoBulkEntries {H : Type} : List (Lit × DataW H) → Nat
  | [] => 0
  | x :: r => uptoBulkEntry x + uptoBulkEntries r
def uptoBulkEntry {H : Type} : Lit × DataW H → Nat
  | (.string bytes, d) => bytes.length + uptoBulk d + 1
  | (_, d) => uptoBulk d + 1
 end
def uptoSmall : (H : Type) → List (DataW H) → Bool := fun _ ds => decide (uptoBulkAll ds ≤ 1048576)
def OpenSpec.upto (s : _root_.Go.ChangeSpec) : _root_.Go.OpenSpec := { _root_.Go.OpenSpec.ofChange s with cond := some uptoSmall }

/-- 'nightjarlaw07.WheelPlays', WHERE WHAT IT READS IS OF BULK AT MOST 1048576: true; the input reads as it did. -/
def wheelPlaysUptoRow : OpenClaim := { program := "ytlkmdighjgpdlaa", sum := "206100dcbb764476a231cd57e1c5d354013382ec74f4b801770f71f6aa8300d8", func := "nightjar/nightjarlaw07.WheelPlays", spec := "wheelPlays", unfollowed := true, recurses := true, apart := false, narrowed := true }
def WheelPlaysUptoSaid : Prop := wheelPlaysUptoRow.holds Try.pinned (OpenSpec.upto wheelPlaysSpec)

/-- 'nightjarlaw07.WheelOnce', WHERE WHAT IT READS IS OF BULK AT MOST 1048576: true; the input reads as it did. -/
def wheelOnceUptoRow : OpenClaim := { program := "ytlkmdighjgpdlaa", sum := "206100dcbb764476a231cd57e1c5d354013382ec74f4b801770f71f6aa8300d8", func := "nightjar/nightjarlaw07.WheelOnce", spec := "wheelOnce", unfollowed := true, recurses := true, apart := false, narrowed := true }
def WheelOnceUptoSaid : Prop := wheelOnceUptoRow.holds Try.pinned (OpenSpec.upto wheelOnceSpec)

/-- 'nightjarlaw07.WheelCuts', WHERE WHAT IT READS IS OF BULK AT MOST 1048576: true; the input reads as it did. -/
def wheelCutsUptoRow : OpenClaim := { program := "ytlkmdighjgpdlaa", sum := "206100dcbb764476a231cd57e1c5d354013382ec74f4b801770f71f6aa8300d8", func := "nightjar/nightjarlaw07.WheelCuts", spec := "wheelCuts", unfollowed := true, recurses := true, apart := false, narrowed := true }
def WheelCutsUptoSaid : Prop := wheelCutsUptoRow.holds Try.pinned (OpenSpec.upto wheelCutsSpec)

/-- 'nightjarlaw07.WheelLets', WHERE WHAT IT READS IS OF BULK AT MOST 1048576: true; the input reads as it did. -/
def wheelLetsUptoRow : OpenClaim := { program := "ytlkmdighjgpdlaa", sum := "206100dcbb764476a231cd57e1c5d354013382ec74f4b801770f71f6aa8300d8", func := "nightjar/nightjarlaw07.WheelLets", spec := "wheelLets", unfollowed := true, recurses := true, apart := false, narrowed := true }
def WheelLetsUptoSaid : Prop := wheelLetsUptoRow.holds Try.pinned (OpenSpec.upto wheelLetsSpec)

/-- 'nightjarlaw07.WheelTurns', WHERE WHAT IT READS IS OF BULK AT MOST 1048576: true; the input reads as it did. -/
def wheelTurnsUptoRow : OpenClaim := { program := "ytlkmdighjgpdlaa", sum := "206100dcbb764476a231cd57e1c5d354013382ec74f4b801770f71f6aa8300d8", func := "nightjar/nightjarlaw07.WheelTurns", spec := "wheelTurns", unfollowed := true, recurses := true, apart := false, narrowed := true }
def WheelTurnsUptoSaid : Prop := wheelTurnsUptoRow.holds Try.pinned (OpenSpec.upto wheelTurnsSpec)

/-- 'nightjarlaw07.WheelTicks', WHERE WHAT IT READS IS OF BULK AT MOST 1048576: true; the input reads as it did. -/
def wheelTicksUptoRow : OpenClaim := { program := "ytlkmdighjgpdlaa", sum := "206100dcbb764476a231cd57e1c5d354013382ec74f4b801770f71f6aa8300d8", func := "nightjar/nightjarlaw07.WheelTicks", spec := "wheelTicks", unfollowed := true, recurses := true, apart := false, narrowed := true }
def WheelTicksUptoSaid : Prop := wheelTicksUptoRow.holds Try.pinned (OpenSpec.upto wheelTicksSpec)

/-- 'nightjarlaw07.WheelFar', WHERE WHAT IT READS IS OF BULK AT MOST 1048576: true; the input reads as it did. -/
def wheelFarUptoRow : OpenClaim := { program := "ytlkmdighjgpdlaa", sum := "206100dcbb764476a231cd57e1c5d354013382ec74f4b801770f71f6aa8300d8", func := "nightjar/nightjarlaw07.WheelFar", spec := "wheelFar", unfollowed := true, recurses := true, apart := false, narrowed := true }
def WheelFarUptoSaid : Prop := wheelFarUptoRow.holds Try.pinned (OpenSpec.upto wheelFarSpec)

end Rows
end Go.Proofs.Ytlkmdighjgpdlaa
