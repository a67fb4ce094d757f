/- The range of a word that a law is handed. -/
import Derived.Test.YtdlemkmkheokkaaDoorR
namespace Go.Proofs.YtdlemkmkheokkaaDoor
theorem wf_u32 {x : Int} (h : (Lit.int .u32 x).wf = true) : 0 ≤ x ∧ x < 4294967296 := by
  simp [Lit.wf, IntKind.min, IntKind.max, IntKind.signed, IntKind.bits] at h
  omega
end Go.Proofs.YtdlemkmkheokkaaDoor
