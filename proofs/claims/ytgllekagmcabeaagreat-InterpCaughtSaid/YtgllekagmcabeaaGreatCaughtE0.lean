/- InterpCaught at some of its inputs: X answers true. No condition. -/
import Derived.Test.YtgllekagmcabeaaGreatL1
import Derived.KernelRfl
namespace Go.Proofs.YtgllekagmcabeaaGreat.lawInterpCaught
open Go Go.X
theorem ev_0_0 : isTrue (run xfF 1000000 4 [.bool false, .bool false]) = true := by decide +kernel
theorem ev_0_1 : isTrue (run xfF 1000000 4 [.bool false, .bool true]) = true := by decide +kernel
end Go.Proofs.YtgllekagmcabeaaGreat.lawInterpCaught
