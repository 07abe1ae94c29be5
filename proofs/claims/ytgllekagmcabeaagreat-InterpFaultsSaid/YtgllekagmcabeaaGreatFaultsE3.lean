/- InterpFaults at some of its inputs: X answers true. No condition. -/
import Derived.Test.YtgllekagmcabeaaGreatL1
import Derived.KernelRfl
namespace Go.Proofs.YtgllekagmcabeaaGreat.lawInterpFaults
open Go Go.X
theorem ev_6 : isTrue (run xfF 1000000 3 [.res .u8 10 6]) = true := by decide +kernel
theorem ev_7 : isTrue (run xfF 1000000 3 [.res .u8 10 7]) = true := by decide +kernel
end Go.Proofs.YtgllekagmcabeaaGreat.lawInterpFaults
