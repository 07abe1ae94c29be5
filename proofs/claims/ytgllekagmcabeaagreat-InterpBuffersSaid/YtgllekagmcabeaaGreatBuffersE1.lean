/- InterpBuffers at some of its inputs: X answers true. No condition. -/
import Derived.Test.YtgllekagmcabeaaGreatL1
import Derived.KernelRfl
namespace Go.Proofs.YtgllekagmcabeaaGreat.lawInterpBuffers
open Go Go.X
theorem ev_1_0 : isTrue (run xfF 1000000 6 [.bool true, .res .u8 2 0]) = true := by decide +kernel
theorem ev_1_1 : isTrue (run xfF 1000000 6 [.bool true, .res .u8 2 1]) = true := by decide +kernel
end Go.Proofs.YtgllekagmcabeaaGreat.lawInterpBuffers
