/- What HandKnown computes, by the abstract machine, in the kernel. -/
import Derived.Test.YtihcpmebabkagaaGreatAb27
import Derived.Test.YtihcpmebabkagaaGreatProg
import Derived.KernelRfl
namespace Go.Proofs.YtihcpmebabkagaaGreat.handKnown
open Go.Ab
theorem run3 : isT (callF Tryz.prog (extT 10) 100 30 3 #[] H0) = true := by kernel_rfl
theorem known3 : isT (callN Tryz.prog (extT 10) 100 30 3 #[] H0) = true := isT_F run3
end Go.Proofs.YtihcpmebabkagaaGreat.handKnown
