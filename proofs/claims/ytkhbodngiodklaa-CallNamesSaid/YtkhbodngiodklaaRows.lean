/-
  No cell of these rows narrows 'for every input' (looked for: loops, veiled, ifaces, maps, wideKeys, modest, calm, conditions, laid).
  DERIVED. THE GIVEN ROWS OF THIS SEAT. 10 by the template 'for every input the law returns true; each argument reads behind the call as it read before'; 0 by the template 'total and deterministic' (their statements: YtkhbodngiodklaaTotals.lean).
  GIVEN WITH THE SEED: the statements are not yours to turn. If you find one false, say at which input.
  Laid BY PROGRAM, IN A SANDBOX (cutbox-rows.mjs): the forced cells as the released guide's own fill.sh prints them over the translation bb4289df54ca68e4… (all of the seat's roots in one cut). By AI agents, Wed Nov 11 2026. No macro, syntax, notation, axiom, sorry.
-/
import Derived.Test.YtkhbodngiodklaaChecked
import GoSem.Claim
import GoSem.ClaimJoined
import GoSem.ClaimMapViews
import Derived.JoinedTies
import Derived.KernelRfl
namespace Go.Proofs.Ytkhbodngiodklaa
/- THE CELL 'sum', in the pinned program and in every row, IS THE sha256 OF THE DUMP (.gsa) THAT YtkhbodngiodklaaProg.lean LOADS. Nothing in Lean hashes anything: it is a label: what it is worth is what the hold of that sum in a sandbox is worth. -/
noncomputable def Try.pinned : Pinned := { name := "ytkhbodngiodklaa", sum := "bb4289df54ca68e46604dcf4a725a1799dab13068d4ccacc2523160679778468", checked := Try.checked }
namespace Rows
def none {H : Type} : Left H := { results := [], args := [] }

/-- 'nightjarlaw14.CallForms': WHATEVER THE INPUT: true; the input reads as it did. -/
def callFormsSpec : ChangeSpec := { name := "callForms", fn := fun _ => fun
  | [d1, d2] => { results := [.lit (.bool true)], args := [d1, d2] }
  | _ => none }
def callFormsRow : OpenClaim := { program := "ytkhbodngiodklaa", sum := "bb4289df54ca68e46604dcf4a725a1799dab13068d4ccacc2523160679778468", func := "nightjar/nightjarlaw14.CallForms", spec := "callForms", apart := false }
def CallFormsSaid : Prop := callFormsRow.holds Try.pinned (OpenSpec.ofChange callFormsSpec)

/-- ITS FALSE NEIGHBOUR: 'it returns false'. Refute it at one input. -/
def callFormsWrong : ChangeSpec := { name := "callForms", fn := fun _ => fun
  | [d1, d2] => { results := [.lit (.bool false)], args := [d1, d2] }
  | _ => none }
def CallFormsWrongFalsely : Prop := callFormsRow.holds Try.pinned (OpenSpec.ofChange callFormsWrong)

/-- 'nightjarlaw14.CallReads': WHATEVER THE INPUT: true; the input reads as it did. -/
def callReadsSpec : ChangeSpec := { name := "callReads", fn := fun _ => fun
  | [d1, d2] => { results := [.lit (.bool true)], args := [d1, d2] }
  | _ => none }
def callReadsRow : OpenClaim := { program := "ytkhbodngiodklaa", sum := "bb4289df54ca68e46604dcf4a725a1799dab13068d4ccacc2523160679778468", func := "nightjar/nightjarlaw14.CallReads", spec := "callReads", apart := false }
def CallReadsSaid : Prop := callReadsRow.holds Try.pinned (OpenSpec.ofChange callReadsSpec)

/-- ITS FALSE NEIGHBOUR: 'it returns false'. Refute it at one input. -/
def callReadsWrong : ChangeSpec := { name := "callReads", fn := fun _ => fun
  | [d1, d2] => { results := [.lit (.bool false)], args := [d1, d2] }
  | _ => none }
def CallReadsWrongFalsely : Prop := callReadsRow.holds Try.pinned (OpenSpec.ofChange callReadsWrong)

/-- 'nightjarlaw14.CallBack': WHATEVER THE INPUT: true; the input reads as it did. -/
def callBackSpec : ChangeSpec := { name := "callBack", fn := fun _ => fun
  | [d1, d2] => { results := [.lit (.bool true)], args := [d1, d2] }
  | _ => none }
def callBackRow : OpenClaim := { program := "ytkhbodngiodklaa", sum := "bb4289df54ca68e46604dcf4a725a1799dab13068d4ccacc2523160679778468", func := "nightjar/nightjarlaw14.CallBack", spec := "callBack", apart := false }
def CallBackSaid : Prop := callBackRow.holds Try.pinned (OpenSpec.ofChange callBackSpec)

/-- ITS FALSE NEIGHBOUR: 'it returns false'. Refute it at one input. -/
def callBackWrong : ChangeSpec := { name := "callBack", fn := fun _ => fun
  | [d1, d2] => { results := [.lit (.bool false)], args := [d1, d2] }
  | _ => none }
def CallBackWrongFalsely : Prop := callBackRow.holds Try.pinned (OpenSpec.ofChange callBackWrong)

/-- 'nightjarlaw14.CallNames': WHATEVER THE INPUT: true; the input reads as it did. -/
def callNamesSpec : ChangeSpec := { name := "callNames", fn := fun _ => fun
  | [d1, d2, d3, d4, d5] => { results := [.lit (.bool true)], args := [d1, d2, d3, d4, d5] }
  | _ => none }
def callNamesRow : OpenClaim := { program := "ytkhbodngiodklaa", sum := "bb4289df54ca68e46604dcf4a725a1799dab13068d4ccacc2523160679778468", func := "nightjar/nightjarlaw14.CallNames", spec := "callNames", apart := false }
def CallNamesSaid : Prop := callNamesRow.holds Try.pinned (OpenSpec.ofChange callNamesSpec)

/-- ITS FALSE NEIGHBOUR: 'it returns false'. Refute it at one input. -/
def callNamesWrong : ChangeSpec := { name := "callNames", fn := fun _ => fun
  | [d1, d2, d3, d4, d5] => { results := [.lit (.bool false)], args := [d1, d2, d3, d4, d5] }
  | _ => none }
def CallNamesWrongFalsely : Prop := callNamesRow.holds Try.pinned (OpenSpec.ofChange callNamesWrong)

/-- 'nightjarlaw15.WireReads': WHATEVER THE INPUT: true; the input reads as it did. -/
def wireReadsSpec : ChangeSpec := { name := "wireReads", fn := fun _ => fun
  | [d] => { results := [.lit (.bool true)], args := [d] }
  | _ => none }
def wireReadsRow : OpenClaim := { program := "ytkhbodngiodklaa", sum := "bb4289df54ca68e46604dcf4a725a1799dab13068d4ccacc2523160679778468", func := "nightjar/nightjarlaw15.WireReads", spec := "wireReads", apart := false }
def WireReadsSaid : Prop := wireReadsRow.holds Try.pinned (OpenSpec.ofChange wireReadsSpec)

/-- ITS FALSE NEIGHBOUR: 'it returns false'. Refute it at one input. -/
def wireReadsWrong : ChangeSpec := { name := "wireReads", fn := fun _ => fun
  | [d] => { results := [.lit (.bool false)], args := [d] }
  | _ => none }
def WireReadsWrongFalsely : Prop := wireReadsRow.holds Try.pinned (OpenSpec.ofChange wireReadsWrong)

/-- 'nightjarlaw15.WireWrites': WHATEVER THE INPUT: true; the input reads as it did. -/
def wireWritesSpec : ChangeSpec := { name := "wireWrites", fn := fun _ => fun
  | [d] => { results := [.lit (.bool true)], args := [d] }
  | _ => none }
def wireWritesRow : OpenClaim := { program := "ytkhbodngiodklaa", sum := "bb4289df54ca68e46604dcf4a725a1799dab13068d4ccacc2523160679778468", func := "nightjar/nightjarlaw15.WireWrites", spec := "wireWrites", apart := false }
def WireWritesSaid : Prop := wireWritesRow.holds Try.pinned (OpenSpec.ofChange wireWritesSpec)

/-- ITS FALSE NEIGHBOUR: 'it returns false'. Refute it at one input. -/
def wireWritesWrong : ChangeSpec := { name := "wireWrites", fn := fun _ => fun
  | [d] => { results := [.lit (.bool false)], args := [d] }
  | _ => none }
def WireWritesWrongFalsely : Prop := wireWritesRow.holds Try.pinned (OpenSpec.ofChange wireWritesWrong)

/-- 'nightjarlaw15.WireBack': WHATEVER THE INPUT: true; the input reads as it did. -/
def wireBackSpec : ChangeSpec := { name := "wireBack", fn := fun _ => fun
  | [d1, d2] => { results := [.lit (.bool true)], args := [d1, d2] }
  | _ => none }
def wireBackRow : OpenClaim := { program := "ytkhbodngiodklaa", sum := "bb4289df54ca68e46604dcf4a725a1799dab13068d4ccacc2523160679778468", func := "nightjar/nightjarlaw15.WireBack", spec := "wireBack", apart := false }
def WireBackSaid : Prop := wireBackRow.holds Try.pinned (OpenSpec.ofChange wireBackSpec)

/-- ITS FALSE NEIGHBOUR: 'it returns false'. Refute it at one input. -/
def wireBackWrong : ChangeSpec := { name := "wireBack", fn := fun _ => fun
  | [d1, d2] => { results := [.lit (.bool false)], args := [d1, d2] }
  | _ => none }
def WireBackWrongFalsely : Prop := wireBackRow.holds Try.pinned (OpenSpec.ofChange wireBackWrong)

/-- 'nightjarlaw15.WireCuts': WHATEVER THE INPUT: true; the input reads as it did. -/
def wireCutsSpec : ChangeSpec := { name := "wireCuts", fn := fun _ => fun
  | [d1, d2] => { results := [.lit (.bool true)], args := [d1, d2] }
  | _ => none }
def wireCutsRow : OpenClaim := { program := "ytkhbodngiodklaa", sum := "bb4289df54ca68e46604dcf4a725a1799dab13068d4ccacc2523160679778468", func := "nightjar/nightjarlaw15.WireCuts", spec := "wireCuts", apart := false }
def WireCutsSaid : Prop := wireCutsRow.holds Try.pinned (OpenSpec.ofChange wireCutsSpec)

/-- ITS FALSE NEIGHBOUR: 'it returns false'. Refute it at one input. -/
def wireCutsWrong : ChangeSpec := { name := "wireCuts", fn := fun _ => fun
  | [d1, d2] => { results := [.lit (.bool false)], args := [d1, d2] }
  | _ => none }
def WireCutsWrongFalsely : Prop := wireCutsRow.holds Try.pinned (OpenSpec.ofChange wireCutsWrong)

/-- 'nightjarlaw15.WireParts': WHATEVER THE INPUT: true; the input reads as it did. -/
def wirePartsSpec : ChangeSpec := { name := "wireParts", fn := fun _ => fun
  | [d1, d2] => { results := [.lit (.bool true)], args := [d1, d2] }
  | _ => none }
def wirePartsRow : OpenClaim := { program := "ytkhbodngiodklaa", sum := "bb4289df54ca68e46604dcf4a725a1799dab13068d4ccacc2523160679778468", func := "nightjar/nightjarlaw15.WireParts", spec := "wireParts", apart := false }
def WirePartsSaid : Prop := wirePartsRow.holds Try.pinned (OpenSpec.ofChange wirePartsSpec)

/-- ITS FALSE NEIGHBOUR: 'it returns false'. Refute it at one input. -/
def wirePartsWrong : ChangeSpec := { name := "wireParts", fn := fun _ => fun
  | [d1, d2] => { results := [.lit (.bool false)], args := [d1, d2] }
  | _ => none }
def WirePartsWrongFalsely : Prop := wirePartsRow.holds Try.pinned (OpenSpec.ofChange wirePartsWrong)

/-- 'nightjarlaw15.WireSpoils': WHATEVER THE INPUT: true; the input reads as it did. -/
def wireSpoilsSpec : ChangeSpec := { name := "wireSpoils", fn := fun _ => fun
  | [d1, d2, d3] => { results := [.lit (.bool true)], args := [d1, d2, d3] }
  | _ => none }
def wireSpoilsRow : OpenClaim := { program := "ytkhbodngiodklaa", sum := "bb4289df54ca68e46604dcf4a725a1799dab13068d4ccacc2523160679778468", func := "nightjar/nightjarlaw15.WireSpoils", spec := "wireSpoils", apart := false }
def WireSpoilsSaid : Prop := wireSpoilsRow.holds Try.pinned (OpenSpec.ofChange wireSpoilsSpec)

/-- ITS FALSE NEIGHBOUR: 'it returns false'. Refute it at one input. -/
def wireSpoilsWrong : ChangeSpec := { name := "wireSpoils", fn := fun _ => fun
  | [d1, d2, d3] => { results := [.lit (.bool false)], args := [d1, d2, d3] }
  | _ => none }
def WireSpoilsWrongFalsely : Prop := wireSpoilsRow.holds Try.pinned (OpenSpec.ofChange wireSpoilsWrong)

/- THE SECOND FORM. 'bulk': how many values and letters a reading holds, each counted each time it is reached (what is shared counts as often as it is met; a slice's spare places count too). A statement '..UptoSaid' is the law's where the arguments, and the package variables that the reading takes, are together of bulk at most 1048576: NARROWER than '..Said'. Prove '..Said' where nothing that the law and all that it calls make is longer than what came in: it says more and counts as full. Else prove '..UptoSaid'. A law counts once. -/
mutual
def uptoBulk {H : Type} : DataW H → Nat
  | .lit (.string bytes) => bytes.length + 1
  | .lit _ => 1
  | .nil => 1
  | .ptr d => uptoBulk d + 1
  | .slice elems spare => uptoBulkAll elems + uptoBulkAll spare + 1
  | .agg parts => uptoBulkAll parts + 1
  | .iface _ d => uptoBulk d + 1
  | .map entries => uptoBulkEntries entries + 1
  | .held _ => 1
def uptoBulkAll {H : Type} : List (DataW H) → Nat
  | [] => 0
  | d :: r => uptoBulk d + uptoBulkAll r
def uptoBulkEntries {H : Type} : List (Lit × DataW H) → Nat
  | [] => 0
  | x :: r => uptoBulkEntry x + uptoBulkEntries r
def uptoBulkEntry {H : Type} : Lit × DataW H → Nat
  | (.string bytes, d) => bytes.length + uptoBulk d + 1
  | (_, d) => uptoBulk d + 1
 end
def uptoSmall : (H : Type) → List (DataW H) → Bool := fun _ ds => decide (uptoBulkAll ds ≤ 1048576)
def OpenSpec.upto (s : _root_.Go.ChangeSpec) : _root_.Go.OpenSpec := { _root_.Go.OpenSpec.ofChange s with cond := some uptoSmall }

/-- 'nightjarlaw14.CallForms', WHERE WHAT IT READS IS OF BULK AT MOST 1048576: true; the input reads as it did. -/
def callFormsUptoRow : OpenClaim := { program := "ytkhbodngiodklaa", sum := "bb4289df54ca68e46604dcf4a725a1799dab13068d4ccacc2523160679778468", func := "nightjar/nightjarlaw14.CallForms", spec := "callForms", apart := false, narrowed := true }
def CallFormsUptoSaid : Prop := callFormsUptoRow.holds Try.pinned (OpenSpec.upto callFormsSpec)

/-- 'nightjarlaw14.CallReads', WHERE WHAT IT READS IS OF BULK AT MOST 1048576: true; the input reads as it did. -/
def callReadsUptoRow : OpenClaim := { program := "ytkhbodngiodklaa", sum := "bb4289df54ca68e46604dcf4a725a1799dab13068d4ccacc2523160679778468", func := "nightjar/nightjarlaw14.CallReads", spec := "callReads", apart := false, narrowed := true }
def CallReadsUptoSaid : Prop := callReadsUptoRow.holds Try.pinned (OpenSpec.upto callReadsSpec)

/-- 'nightjarlaw14.CallBack', WHERE WHAT IT READS IS OF BULK AT MOST 1048576: true; the input reads as it did. -/
def callBackUptoRow : OpenClaim := { program := "ytkhbodngiodklaa", sum := "bb4289df54ca68e46604dcf4a725a1799dab13068d4ccacc2523160679778468", func := "nightjar/nightjarlaw14.CallBack", spec := "callBack", apart := false, narrowed := true }
def CallBackUptoSaid : Prop := callBackUptoRow.holds Try.pinned (OpenSpec.upto callBackSpec)

/-- 'nightjarlaw14.CallNames', WHERE WHAT IT READS IS OF BULK AT MOST 1048576: true; the input reads as it did. -/
def callNamesUptoRow : OpenClaim := { program := "ytkhbodngiodklaa", sum := "bb4289df54ca68e46604dcf4a725a1799dab13068d4ccacc2523160679778468", func := "nightjar/nightjarlaw14.CallNames", spec := "callNames", apart := false, narrowed := true }
def CallNamesUptoSaid : Prop := callNamesUptoRow.holds Try.pinned (OpenSpec.upto callNamesSpec)

/-- 'nightjarlaw15.WireReads', WHERE WHAT IT READS IS OF BULK AT MOST 1048576: true; the input reads as it did. -/
def wireReadsUptoRow : OpenClaim := { program := "ytkhbodngiodklaa", sum := "bb4289df54ca68e46604dcf4a725a1799dab13068d4ccacc2523160679778468", func := "nightjar/nightjarlaw15.WireReads", spec := "wireReads", apart := false, narrowed := true }
def WireReadsUptoSaid : Prop := wireReadsUptoRow.holds Try.pinned (OpenSpec.upto wireReadsSpec)

/-- 'nightjarlaw15.WireWrites', WHERE WHAT IT READS IS OF BULK AT MOST 1048576: true; the input reads as it did. -/
def wireWritesUptoRow : OpenClaim := { program := "ytkhbodngiodklaa", sum := "bb4289df54ca68e46604dcf4a725a1799dab13068d4ccacc2523160679778468", func := "nightjar/nightjarlaw15.WireWrites", spec := "wireWrites", apart := false, narrowed := true }
def WireWritesUptoSaid : Prop := wireWritesUptoRow.holds Try.pinned (OpenSpec.upto wireWritesSpec)

/-- 'nightjarlaw15.WireBack', WHERE WHAT IT READS IS OF BULK AT MOST 1048576: true; the input reads as it did. -/
def wireBackUptoRow : OpenClaim := { program := "ytkhbodngiodklaa", sum := "bb4289df54ca68e46604dcf4a725a1799dab13068d4ccacc2523160679778468", func := "nightjar/nightjarlaw15.WireBack", spec := "wireBack", apart := false, narrowed := true }
def WireBackUptoSaid : Prop := wireBackUptoRow.holds Try.pinned (OpenSpec.upto wireBackSpec)

/-- 'nightjarlaw15.WireCuts', WHERE WHAT IT READS IS OF BULK AT MOST 1048576: true; the input reads as it did. -/
def wireCutsUptoRow : OpenClaim := { program := "ytkhbodngiodklaa", sum := "bb4289df54ca68e46604dcf4a725a1799dab13068d4ccacc2523160679778468", func := "nightjar/nightjarlaw15.WireCuts", spec := "wireCuts", apart := false, narrowed := true }
def WireCutsUptoSaid : Prop := wireCutsUptoRow.holds Try.pinned (OpenSpec.upto wireCutsSpec)

/-- 'nightjarlaw15.WireParts', WHERE WHAT IT READS IS OF BULK AT MOST 1048576: true; the input reads as it did. -/
def wirePartsUptoRow : OpenClaim := { program := "ytkhbodngiodklaa", sum := "bb4289df54ca68e46604dcf4a725a1799dab13068d4ccacc2523160679778468", func := "nightjar/nightjarlaw15.WireParts", spec := "wireParts", apart := false, narrowed := true }
def WirePartsUptoSaid : Prop := wirePartsUptoRow.holds Try.pinned (OpenSpec.upto wirePartsSpec)

/-- 'nightjarlaw15.WireSpoils', WHERE WHAT IT READS IS OF BULK AT MOST 1048576: true; the input reads as it did. -/
def wireSpoilsUptoRow : OpenClaim := { program := "ytkhbodngiodklaa", sum := "bb4289df54ca68e46604dcf4a725a1799dab13068d4ccacc2523160679778468", func := "nightjar/nightjarlaw15.WireSpoils", spec := "wireSpoils", apart := false, narrowed := true }
def WireSpoilsUptoSaid : Prop := wireSpoilsUptoRow.holds Try.pinned (OpenSpec.upto wireSpoilsSpec)

end Rows
end Go.Proofs.Ytkhbodngiodklaa
