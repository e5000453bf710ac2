/- The contracts of the laws of package wire. -/
import Derived.Test.YtkhbodngiodklaaWb
set_option linter.all false
namespace Go.Proofs.Ytkhbodngiodklaa
open Go Go.Ex
def conAlive : Con := lawC [] True
def conWReads : Con := lawC [.d tB] (fun (l : List Int) => bytes l)
def conWWrites : Con := lawC [.d tEs] (fun (l : List En) => ∀ e ∈ l, wfE e)
end Go.Proofs.Ytkhbodngiodklaa
