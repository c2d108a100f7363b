/- The evaluator, run: hindsightlaw23.awake hands back true. -/
import Derived.Test.YtmcigpanhceifaaGreatDoorProg
import Derived.KernelRfl
import Derived.Test.YtmcigpanhceifaaGreatDoorHxB0
namespace Go.Proofs.YtmcigpanhceifaaGreatDoor
open Hx
theorem awake_run : isTrue (callX Tryz.prog 100000 200 11 [] H0) = true := by kernel_rfl
end Go.Proofs.YtmcigpanhceifaaGreatDoor
