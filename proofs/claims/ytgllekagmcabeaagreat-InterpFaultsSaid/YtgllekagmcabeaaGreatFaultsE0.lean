/- InterpFaults at some of its inputs: X answers true. No condition. -/
import Derived.Test.YtgllekagmcabeaaGreatL1
import Derived.KernelRfl
namespace Go.Proofs.YtgllekagmcabeaaGreat.lawInterpFaults
open Go Go.X
theorem ev_0 : isTrue (run xfF 1000000 3 [.res .u8 10 0]) = true := by decide +kernel
theorem ev_1 : isTrue (run xfF 1000000 3 [.res .u8 10 1]) = true := by decide +kernel
end Go.Proofs.YtgllekagmcabeaaGreat.lawInterpFaults
