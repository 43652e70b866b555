/- The closed example, call by call. Printed by a program of ours (view.lean, ktext.py). -/
import Derived.Test.YteaifkpmfbgekaaGreatDoorK2
set_option linter.all false
set_option linter.deprecated false
set_option maxRecDepth 100000
namespace Go.Proofs.YteaifkpmfbgekaaGreatDoor
open Go
theorem g291 : M.GoodK Tryz.prog k291 := M.known_of_chk env0_ok follows (T := [k236, k237, k290]) (M.goods_cons g236 (M.goods_cons g237 (M.goods_cons g290 M.goods_nil))) (K := 2000) (n := 60) (by kernel_rfl)
theorem g292 : M.GoodK Tryz.prog k292 := M.known_of_chk env0_ok follows (T := [k291]) (M.goods_cons g291 M.goods_nil) (K := 2000) (n := 60) (by kernel_rfl)
theorem g293 : M.GoodK Tryz.prog k293 := M.known_of_chk env0_ok follows (T := [k228]) (M.goods_cons g228 M.goods_nil) (K := 2000) (n := 60) (by kernel_rfl)
theorem g294 : M.GoodK Tryz.prog k294 := M.known_of_chk env0_ok follows (T := []) M.goods_nil (K := 2000) (n := 60) (by kernel_rfl)
theorem g295 : M.GoodK Tryz.prog k295 := M.known_of_chk env0_ok follows (T := [k230, k294]) (M.goods_cons g230 (M.goods_cons g294 M.goods_nil)) (K := 2000) (n := 60) (by kernel_rfl)
theorem g296 : M.GoodK Tryz.prog k296 := M.known_of_chk env0_ok follows (T := [k261, k262, k293, k295]) (M.goods_cons g261 (M.goods_cons g262 (M.goods_cons g293 (M.goods_cons g295 M.goods_nil)))) (K := 2000) (n := 60) (by kernel_rfl)
theorem g297 : M.GoodK Tryz.prog k297 := M.known_of_chk env0_ok follows (T := [k296]) (M.goods_cons g296 M.goods_nil) (K := 2000) (n := 60) (by kernel_rfl)
theorem y0 : M.SoundCall Tryz.prog (M.look [x0]) := M.ent_of_chk env0_ok follows (base := M.lookK [k137, k158, k203, k204, k210, k211, k212, k213, k217, k218]) (M.lookK_sound (M.goods_cons g137 (M.goods_cons g158 (M.goods_cons g203 (M.goods_cons g204 (M.goods_cons g210 (M.goods_cons g211 (M.goods_cons g212 (M.goods_cons g213 (M.goods_cons g217 (M.goods_cons g218 M.goods_nil))))))))))) (K := 2000) (n := 60) (by kernel_rfl)
theorem y1 : M.SoundCall Tryz.prog (M.look [x1]) := M.ent_of_chk env0_ok follows (base := M.lookK [k137, k158, k203, k211, k212, k218, k219, k220]) (M.lookK_sound (M.goods_cons g137 (M.goods_cons g158 (M.goods_cons g203 (M.goods_cons g211 (M.goods_cons g212 (M.goods_cons g218 (M.goods_cons g219 (M.goods_cons g220 M.goods_nil))))))))) (K := 2000) (n := 60) (by kernel_rfl)
theorem y2 : M.SoundCall Tryz.prog (M.look [x2]) := M.ent_of_chk env0_ok follows (base := M.lookK [k137, k158, k203, k211, k212, k218, k227, k233]) (M.lookK_sound (M.goods_cons g137 (M.goods_cons g158 (M.goods_cons g203 (M.goods_cons g211 (M.goods_cons g212 (M.goods_cons g218 (M.goods_cons g227 (M.goods_cons g233 M.goods_nil))))))))) (K := 2000) (n := 60) (by kernel_rfl)
theorem y3 : M.SoundCall Tryz.prog (M.look [x3]) := M.ent_of_chk env0_ok follows (base := M.lookK [k137, k158, k203, k211, k212, k218, k219, k220, k234, k235, k239, k256, k257, k258, k259, k260, k264, k281]) (M.lookK_sound (M.goods_cons g137 (M.goods_cons g158 (M.goods_cons g203 (M.goods_cons g211 (M.goods_cons g212 (M.goods_cons g218 (M.goods_cons g219 (M.goods_cons g220 (M.goods_cons g234 (M.goods_cons g235 (M.goods_cons g239 (M.goods_cons g256 (M.goods_cons g257 (M.goods_cons g258 (M.goods_cons g259 (M.goods_cons g260 (M.goods_cons g264 (M.goods_cons g281 M.goods_nil))))))))))))))))))) (K := 2000) (n := 60) (by kernel_rfl)
theorem y4 : M.SoundCall Tryz.prog (M.look [x4]) := M.ent_of_chk env0_ok follows (base := M.lookK [k137, k158, k203, k211, k212, k218, k286, k288]) (M.lookK_sound (M.goods_cons g137 (M.goods_cons g158 (M.goods_cons g203 (M.goods_cons g211 (M.goods_cons g212 (M.goods_cons g218 (M.goods_cons g286 (M.goods_cons g288 M.goods_nil))))))))) (K := 2000) (n := 60) (by kernel_rfl)
end Go.Proofs.YteaifkpmfbgekaaGreatDoor
