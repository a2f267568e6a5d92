/- What chapter 20's example (known) computes, by the abstract machine, in the kernel. -/
import Derived.Test.YtihcpmebabkagaaGreatAb27
import Derived.Test.YtihcpmebabkagaaGreatProg
import Derived.KernelRfl
namespace Go.Proofs.YtihcpmebabkagaaGreat.handKnown
open Go.Ab
theorem run10 : isT (callF Tryz.prog noExt 100 30 10 #[] H0) = true := by kernel_rfl
theorem known10 : isT (callN Tryz.prog noExt 100 30 10 #[] H0) = true := isT_F run10
end Go.Proofs.YtihcpmebabkagaaGreat.handKnown
