/- InterpFaults at some of its inputs: X answers true. No condition. -/
import Derived.Test.YtgllekagmcabeaaGreatL1
import Derived.KernelRfl
namespace Go.Proofs.YtgllekagmcabeaaGreat.lawInterpFaults
open Go Go.X
theorem ev_2 : isTrue (run xfF 1000000 3 [.res .u8 10 2]) = true := by decide +kernel
theorem ev_3 : isTrue (run xfF 1000000 3 [.res .u8 10 3]) = true := by decide +kernel
end Go.Proofs.YtgllekagmcabeaaGreat.lawInterpFaults
