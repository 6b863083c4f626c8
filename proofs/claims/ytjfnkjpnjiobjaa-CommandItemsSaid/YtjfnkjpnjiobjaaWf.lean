/-
  An int argument's width.
-/
import Derived.Test.YtjfnkjpnjiobjaaCodecPlain
namespace Go.Proofs.Ytjfnkjpnjiobjaa
theorem wide64_of_wf {n : Int} (h : (Lit.int .i64 n).wf = true) : Wide64 n := by
  simp [Lit.wf, IntKind.min, IntKind.max, IntKind.signed, IntKind.bits] at h
  exact ⟨by omega, by omega⟩
end Go.Proofs.Ytjfnkjpnjiobjaa
