/- InterpFaults at some of its inputs: X answers true. No condition. -/
import Derived.Test.YtgllekagmcabeaaGreatL1
import Derived.KernelRfl
namespace Go.Proofs.YtgllekagmcabeaaGreat.lawInterpFaults
open Go Go.X
theorem ev_4 : isTrue (run xfF 1000000 3 [.res .u8 10 4]) = true := by decide +kernel
theorem ev_5 : isTrue (run xfF 1000000 3 [.res .u8 10 5]) = true := by decide +kernel
end Go.Proofs.YtgllekagmcabeaaGreat.lawInterpFaults
