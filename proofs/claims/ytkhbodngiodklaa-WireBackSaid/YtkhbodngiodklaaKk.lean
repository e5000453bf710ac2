/- Kinds of objects: none here. -/
import Derived.Test.YtkhbodngiodklaaFtab
set_option linter.all false
namespace Go.Proofs.Ytkhbodngiodklaa
open Go Go.Fx
def KK : Nat → Kn := fun _ => ⟨.bo, .d .bo, [], [], [], fun _ => True, fun _ => false⟩
end Go.Proofs.Ytkhbodngiodklaa
