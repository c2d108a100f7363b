/- The evaluator, run: hindsightlaw23.ReplayKnown hands back true, where awake does. -/
import Derived.Test.YtmcigpanhceifaaGreatDoorProg
import Derived.KernelRfl
import Derived.Test.YtmcigpanhceifaaGreatDoorHxX
namespace Go.Proofs.YtmcigpanhceifaaGreatDoor
open Hx
theorem replay_run : isTrue (stepX Tryz.prog 100000 (callK 11 (callX Tryz.prog 100000 200)) 4 [] H0) = true := by kernel_rfl
theorem noNG : Tryz.prog.funcs.all (fun fn => fn.name != "runtime.NumGoroutine") = true := by kernel_rfl
end Go.Proofs.YtmcigpanhceifaaGreatDoor
