/-
  An int argument's width.
-/
import Derived.Test.YtagklgodcbmcaaaCodecPlain
namespace Go.Proofs.Ytagklgodcbmcaaa
theorem wide64_of_wf {n : Int} (h : (Lit.int .i64 n).wf = true) : Wide64 n := by
  simp [Lit.wf, IntKind.min, IntKind.max, IntKind.signed, IntKind.bits] at h
  exact ⟨by omega, by omega⟩
end Go.Proofs.Ytagklgodcbmcaaa
