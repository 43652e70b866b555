/- The program as the evaluator sees it. -/
import Derived.Test.YteaifkpmfbgekaaGreatDoorTb
import Derived.Test.YteaifkpmfbgekaaGreatDoorB4
import Derived.Test.YteaifkpmfbgekaaGreatDoorChecked
set_option linter.all false
set_option linter.deprecated false
namespace Go.Proofs.YteaifkpmfbgekaaGreatDoor
open Go
noncomputable def env0 : M.Env := ⟨fnT.get, tiT.get, fun _ => false, fun _ => false⟩
theorem env0_ok : M.Env.Ok Tryz.prog env0 (fun ops => M.regionOk ops = true) := M.envOk fnT_fits fnT_list fnT_all tiT_ok (fun _ h => by cases h)
theorem follows : Tryz.prog.follows .mixedOrders = true := by kernel_rfl
theorem laid_out : laidOutB Tryz.prog = true := by kernel_rfl
end Go.Proofs.YteaifkpmfbgekaaGreatDoor
