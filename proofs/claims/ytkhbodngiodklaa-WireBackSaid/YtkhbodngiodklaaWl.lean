/- The contracts of the laws of package wire. -/
import Derived.Test.YtkhbodngiodklaaWb
import Derived.Test.YtkhbodngiodklaaFt
set_option linter.all false
namespace Go.Proofs.Ytkhbodngiodklaa
open Go Go.Fx
def conAlive : Con := lawC [] True
def conWReads : Con := lawT [tB]
def conWWrites : Con := lawT [tEs]
def conWBack : Con := lawT [tEs, .sl tB]
def conWCuts : Con := lawT [tB, .i .i64]
def conWParts : Con := lawT [tEs, tEs]
def conWSpoils : Con := lawT [tEs, .i .i64, .i .u8]
theorem byte_of {x : Int} (h : wfK .u8 x) : 0 ≤ x ∧ x < 256 := by
  simp [wfK, Lit.wf, IntKind.min, IntKind.max, IntKind.signed, IntKind.bits] at h
  omega
theorem bytes_of {l : List Int} (h : Fits tB l) : bytes l := fun x hx => byte_of (h.out.2 x hx)
theorem inU64_of {n : Int} (h : wfK .u64 n) : inU64 n := by
  unfold wfK at h
  simp [Lit.wf, IntKind.min, IntKind.max, IntKind.signed, IntKind.bits] at h
  unfold inU64
  omega
theorem wf_of {l : List En} (h : Fits tEs l) : ∀ e ∈ l, wfE e := fun e he => by
  have := h.out.2 e he
  obtain ⟨_, _, _, ⟨_, ha, hb, hc⟩, _⟩ := this
  exact ⟨inU64_of ha, inU64_of hb, inU64_of hc⟩
end Go.Proofs.Ytkhbodngiodklaa
