/- The facts of the tables. Printed by a program of ours (gen.lean). -/
import Derived.Test.YteaifkpmfbgekaaGreatDoorTa
set_option linter.all false
set_option linter.deprecated false
set_option maxRecDepth 100000
namespace Go.Proofs.YteaifkpmfbgekaaGreatDoor
open Go
theorem tok0 : M.TI.Ok Tryz.prog 0 ti0 := ⟨by kernel_rfl, ⟨Tryz.t0, by kernel_rfl, by kernel_rfl, by kernel_rfl, (fun z h => by cases h)⟩, (fun _ => rfl), (fun h => absurd rfl h)⟩
theorem tok1 : M.TI.Ok Tryz.prog 1 ti1 := ⟨by kernel_rfl, ⟨Tryz.t1, by kernel_rfl, by kernel_rfl, by kernel_rfl, (fun z h => by cases h; exact ⟨_, rfl, by kernel_rfl⟩)⟩, (fun _ => rfl), (fun h => absurd rfl h)⟩
theorem tok2 : M.TI.Ok Tryz.prog 2 ti2 := ⟨by kernel_rfl, ⟨Tryz.t2, by kernel_rfl, by kernel_rfl, by kernel_rfl, (fun z h => by cases h; exact ⟨_, rfl, by kernel_rfl⟩)⟩, (fun _ => rfl), (fun h => absurd rfl h)⟩
theorem tok3 : M.TI.Ok Tryz.prog 3 ti3 := ⟨by kernel_rfl, ⟨Tryz.t3, by kernel_rfl, by kernel_rfl, by kernel_rfl, (fun z h => by cases h; exact ⟨_, rfl, by kernel_rfl⟩)⟩, (fun _ => rfl), (fun h => absurd rfl h)⟩
theorem tok4 : M.TI.Ok Tryz.prog 4 ti4 := ⟨by kernel_rfl, ⟨Tryz.t4, by kernel_rfl, by kernel_rfl, by kernel_rfl, (fun z h => by cases h; exact ⟨_, rfl, by kernel_rfl⟩)⟩, (fun _ => rfl), (fun h => absurd rfl h)⟩
theorem tok5 : M.TI.Ok Tryz.prog 5 ti5 := ⟨by kernel_rfl, ⟨Tryz.t5, by kernel_rfl, by kernel_rfl, by kernel_rfl, (fun z h => by cases h; exact ⟨_, rfl, by kernel_rfl⟩)⟩, (fun _ => rfl), (fun h => absurd rfl h)⟩
theorem tok6 : M.TI.Ok Tryz.prog 6 ti6 := ⟨by kernel_rfl, ⟨Tryz.t6, by kernel_rfl, by kernel_rfl, by kernel_rfl, (fun z h => by cases h; exact ⟨_, rfl, by kernel_rfl⟩)⟩, (fun _ => rfl), (fun h => absurd rfl h)⟩
theorem tok7 : M.TI.Ok Tryz.prog 7 ti7 := ⟨by kernel_rfl, ⟨Tryz.t7, by kernel_rfl, by kernel_rfl, by kernel_rfl, (fun z h => by cases h; exact ⟨_, rfl, by kernel_rfl⟩)⟩, (fun h => by cases h), (fun _ => ⟨by kernel_rfl, by kernel_rfl⟩)⟩
theorem tok8 : M.TI.Ok Tryz.prog 8 ti8 := ⟨by kernel_rfl, ⟨Tryz.t8, by kernel_rfl, by kernel_rfl, by kernel_rfl, (fun z h => by cases h; exact ⟨_, rfl, by kernel_rfl⟩)⟩, (fun h => by cases h), (fun _ => ⟨by kernel_rfl, by kernel_rfl⟩)⟩
theorem tok9 : M.TI.Ok Tryz.prog 9 ti9 := ⟨by kernel_rfl, ⟨Tryz.t9, by kernel_rfl, by kernel_rfl, by kernel_rfl, (fun z h => by cases h; exact ⟨_, rfl, by kernel_rfl⟩)⟩, (fun _ => rfl), (fun h => absurd rfl h)⟩
theorem tok10 : M.TI.Ok Tryz.prog 10 ti10 := ⟨by kernel_rfl, ⟨Tryz.t10, by kernel_rfl, by kernel_rfl, by kernel_rfl, (fun z h => by cases h; exact ⟨_, rfl, by kernel_rfl⟩)⟩, (fun _ => rfl), (fun h => absurd rfl h)⟩
theorem tok11 : M.TI.Ok Tryz.prog 11 ti11 := ⟨by kernel_rfl, ⟨Tryz.t11, by kernel_rfl, by kernel_rfl, by kernel_rfl, (fun z h => by cases h; exact ⟨_, rfl, by kernel_rfl⟩)⟩, (fun _ => rfl), (fun h => absurd rfl h)⟩
theorem tok12 : M.TI.Ok Tryz.prog 12 ti12 := ⟨by kernel_rfl, ⟨Tryz.t12, by kernel_rfl, by kernel_rfl, by kernel_rfl, (fun z h => by cases h; exact ⟨_, rfl, by kernel_rfl⟩)⟩, (fun _ => rfl), (fun h => absurd rfl h)⟩
theorem tok13 : M.TI.Ok Tryz.prog 13 ti13 := ⟨by kernel_rfl, ⟨Tryz.t13, by kernel_rfl, by kernel_rfl, by kernel_rfl, (fun z h => by cases h; exact ⟨_, rfl, by kernel_rfl⟩)⟩, (fun h => by cases h), (fun h => absurd rfl h)⟩
theorem tok14 : M.TI.Ok Tryz.prog 14 ti14 := ⟨by kernel_rfl, ⟨Tryz.t14, by kernel_rfl, by kernel_rfl, by kernel_rfl, (fun z h => by cases h; exact ⟨_, rfl, by kernel_rfl⟩)⟩, (fun h => by cases h), (fun h => absurd rfl h)⟩
theorem tok15 : M.TI.Ok Tryz.prog 15 ti15 := ⟨by kernel_rfl, ⟨Tryz.t15, by kernel_rfl, by kernel_rfl, by kernel_rfl, (fun z h => by cases h; exact ⟨_, rfl, by kernel_rfl⟩)⟩, (fun _ => rfl), (fun h => absurd rfl h)⟩
theorem tok16 : M.TI.Ok Tryz.prog 16 ti16 := ⟨by kernel_rfl, ⟨Tryz.t16, by kernel_rfl, by kernel_rfl, by kernel_rfl, (fun z h => by cases h; exact ⟨_, rfl, by kernel_rfl⟩)⟩, (fun _ => rfl), (fun h => absurd rfl h)⟩
theorem tok17 : M.TI.Ok Tryz.prog 17 ti17 := ⟨by kernel_rfl, ⟨Tryz.t17, by kernel_rfl, by kernel_rfl, by kernel_rfl, (fun z h => by cases h; exact ⟨_, rfl, by kernel_rfl⟩)⟩, (fun _ => rfl), (fun h => absurd rfl h)⟩
theorem tok18 : M.TI.Ok Tryz.prog 18 ti18 := ⟨by kernel_rfl, ⟨Tryz.t18, by kernel_rfl, by kernel_rfl, by kernel_rfl, (fun z h => by cases h; exact ⟨_, rfl, by kernel_rfl⟩)⟩, (fun h => by cases h), (fun h => absurd rfl h)⟩
theorem tok19 : M.TI.Ok Tryz.prog 19 ti19 := ⟨by kernel_rfl, ⟨Tryz.t19, by kernel_rfl, by kernel_rfl, by kernel_rfl, (fun z h => by cases h; exact ⟨_, rfl, by kernel_rfl⟩)⟩, (fun h => by cases h), (fun h => absurd rfl h)⟩
theorem tok20 : M.TI.Ok Tryz.prog 20 ti20 := ⟨by kernel_rfl, ⟨Tryz.t20, by kernel_rfl, by kernel_rfl, by kernel_rfl, (fun z h => by cases h)⟩, (fun _ => rfl), (fun h => absurd rfl h)⟩
theorem tok21 : M.TI.Ok Tryz.prog 21 ti21 := ⟨by kernel_rfl, ⟨Tryz.t21, by kernel_rfl, by kernel_rfl, by kernel_rfl, (fun z h => by cases h; exact ⟨_, rfl, by kernel_rfl⟩)⟩, (fun _ => rfl), (fun h => absurd rfl h)⟩
theorem tok22 : M.TI.Ok Tryz.prog 22 ti22 := ⟨by kernel_rfl, ⟨Tryz.t22, by kernel_rfl, by kernel_rfl, by kernel_rfl, (fun z h => by cases h; exact ⟨_, rfl, by kernel_rfl⟩)⟩, (fun _ => rfl), (fun h => absurd rfl h)⟩
theorem tok23 : M.TI.Ok Tryz.prog 23 ti23 := ⟨by kernel_rfl, ⟨Tryz.t23, by kernel_rfl, by kernel_rfl, by kernel_rfl, (fun z h => by cases h; exact ⟨_, rfl, by kernel_rfl⟩)⟩, (fun _ => rfl), (fun h => absurd rfl h)⟩
theorem tok24 : M.TI.Ok Tryz.prog 24 ti24 := ⟨by kernel_rfl, ⟨Tryz.t24, by kernel_rfl, by kernel_rfl, by kernel_rfl, (fun z h => by cases h; exact ⟨_, rfl, by kernel_rfl⟩)⟩, (fun h => by cases h), (fun h => absurd rfl h)⟩
theorem tok25 : M.TI.Ok Tryz.prog 25 ti25 := ⟨by kernel_rfl, ⟨Tryz.t25, by kernel_rfl, by kernel_rfl, by kernel_rfl, (fun z h => by cases h; exact ⟨_, rfl, by kernel_rfl⟩)⟩, (fun h => by cases h), (fun h => absurd rfl h)⟩
theorem tok26 : M.TI.Ok Tryz.prog 26 ti26 := ⟨by kernel_rfl, ⟨Tryz.t26, by kernel_rfl, by kernel_rfl, by kernel_rfl, (fun z h => by cases h; exact ⟨_, rfl, by kernel_rfl⟩)⟩, (fun _ => rfl), (fun h => absurd rfl h)⟩
theorem tok27 : M.TI.Ok Tryz.prog 27 ti27 := ⟨by kernel_rfl, ⟨Tryz.t27, by kernel_rfl, by kernel_rfl, by kernel_rfl, (fun z h => by cases h; exact ⟨_, rfl, by kernel_rfl⟩)⟩, (fun _ => rfl), (fun h => absurd rfl h)⟩
theorem tok28 : M.TI.Ok Tryz.prog 28 ti28 := ⟨by kernel_rfl, ⟨Tryz.t28, by kernel_rfl, by kernel_rfl, by kernel_rfl, (fun z h => by cases h; exact ⟨_, rfl, by kernel_rfl⟩)⟩, (fun _ => rfl), (fun h => absurd rfl h)⟩
theorem tok29 : M.TI.Ok Tryz.prog 29 ti29 := ⟨by kernel_rfl, ⟨Tryz.t29, by kernel_rfl, by kernel_rfl, by kernel_rfl, (fun z h => by cases h; exact ⟨_, rfl, by kernel_rfl⟩)⟩, (fun _ => rfl), (fun h => absurd rfl h)⟩
theorem tok30 : M.TI.Ok Tryz.prog 30 ti30 := ⟨by kernel_rfl, ⟨Tryz.t30, by kernel_rfl, by kernel_rfl, by kernel_rfl, (fun z h => by cases h)⟩, (fun _ => rfl), (fun h => absurd rfl h)⟩
theorem tok31 : M.TI.Ok Tryz.prog 31 ti31 := ⟨by kernel_rfl, ⟨Tryz.t31, by kernel_rfl, by kernel_rfl, by kernel_rfl, (fun z h => by cases h; exact ⟨_, rfl, by kernel_rfl⟩)⟩, (fun _ => rfl), (fun h => absurd rfl h)⟩
theorem tok32 : M.TI.Ok Tryz.prog 32 ti32 := ⟨by kernel_rfl, ⟨Tryz.t32, by kernel_rfl, by kernel_rfl, by kernel_rfl, (fun z h => by cases h; exact ⟨_, rfl, by kernel_rfl⟩)⟩, (fun _ => rfl), (fun h => absurd rfl h)⟩
theorem tok33 : M.TI.Ok Tryz.prog 33 ti33 := ⟨by kernel_rfl, ⟨Tryz.t33, by kernel_rfl, by kernel_rfl, by kernel_rfl, (fun z h => by cases h; exact ⟨_, rfl, by kernel_rfl⟩)⟩, (fun _ => rfl), (fun h => absurd rfl h)⟩
theorem tok34 : M.TI.Ok Tryz.prog 34 ti34 := ⟨by kernel_rfl, ⟨Tryz.t34, by kernel_rfl, by kernel_rfl, by kernel_rfl, (fun z h => by cases h; exact ⟨_, rfl, by kernel_rfl⟩)⟩, (fun _ => rfl), (fun h => absurd rfl h)⟩
theorem tok35 : M.TI.Ok Tryz.prog 35 ti35 := ⟨by kernel_rfl, ⟨Tryz.t35, by kernel_rfl, by kernel_rfl, by kernel_rfl, (fun z h => by cases h; exact ⟨_, rfl, by kernel_rfl⟩)⟩, (fun _ => rfl), (fun h => absurd rfl h)⟩
theorem tok36 : M.TI.Ok Tryz.prog 36 ti36 := ⟨by kernel_rfl, ⟨Tryz.t36, by kernel_rfl, by kernel_rfl, by kernel_rfl, (fun z h => by cases h; exact ⟨_, rfl, by kernel_rfl⟩)⟩, (fun _ => rfl), (fun h => absurd rfl h)⟩
theorem tok37 : M.TI.Ok Tryz.prog 37 ti37 := ⟨by kernel_rfl, ⟨Tryz.t37, by kernel_rfl, by kernel_rfl, by kernel_rfl, (fun z h => by cases h; exact ⟨_, rfl, by kernel_rfl⟩)⟩, (fun h => by cases h), (fun h => absurd rfl h)⟩
theorem tok38 : M.TI.Ok Tryz.prog 38 ti38 := ⟨by kernel_rfl, ⟨Tryz.t38, by kernel_rfl, by kernel_rfl, by kernel_rfl, (fun z h => by cases h; exact ⟨_, rfl, by kernel_rfl⟩)⟩, (fun h => by cases h), (fun h => absurd rfl h)⟩
theorem tok39 : M.TI.Ok Tryz.prog 39 ti39 := ⟨by kernel_rfl, ⟨Tryz.t39, by kernel_rfl, by kernel_rfl, by kernel_rfl, (fun z h => by cases h; exact ⟨_, rfl, by kernel_rfl⟩)⟩, (fun _ => rfl), (fun h => absurd rfl h)⟩
theorem tok40 : M.TI.Ok Tryz.prog 40 ti40 := ⟨by kernel_rfl, ⟨Tryz.t40, by kernel_rfl, by kernel_rfl, by kernel_rfl, (fun z h => by cases h; exact ⟨_, rfl, by kernel_rfl⟩)⟩, (fun _ => rfl), (fun h => absurd rfl h)⟩
theorem tok41 : M.TI.Ok Tryz.prog 41 ti41 := ⟨by kernel_rfl, ⟨Tryz.t41, by kernel_rfl, by kernel_rfl, by kernel_rfl, (fun z h => by cases h; exact ⟨_, rfl, by kernel_rfl⟩)⟩, (fun _ => rfl), (fun h => absurd rfl h)⟩
theorem tok42 : M.TI.Ok Tryz.prog 42 ti42 := ⟨by kernel_rfl, ⟨Tryz.t42, by kernel_rfl, by kernel_rfl, by kernel_rfl, (fun z h => by cases h)⟩, (fun _ => rfl), (fun h => absurd rfl h)⟩
theorem tok43 : M.TI.Ok Tryz.prog 43 ti43 := ⟨by kernel_rfl, ⟨Tryz.t43, by kernel_rfl, by kernel_rfl, by kernel_rfl, (fun z h => by cases h; exact ⟨_, rfl, by kernel_rfl⟩)⟩, (fun _ => rfl), (fun h => absurd rfl h)⟩
theorem tok44 : M.TI.Ok Tryz.prog 44 ti44 := ⟨by kernel_rfl, ⟨Tryz.t44, by kernel_rfl, by kernel_rfl, by kernel_rfl, (fun z h => by cases h; exact ⟨_, rfl, by kernel_rfl⟩)⟩, (fun _ => rfl), (fun h => absurd rfl h)⟩
theorem tok45 : M.TI.Ok Tryz.prog 45 ti45 := ⟨by kernel_rfl, ⟨Tryz.t45, by kernel_rfl, by kernel_rfl, by kernel_rfl, (fun z h => by cases h; exact ⟨_, rfl, by kernel_rfl⟩)⟩, (fun h => by cases h), (fun h => absurd rfl h)⟩
theorem tok46 : M.TI.Ok Tryz.prog 46 ti46 := ⟨by kernel_rfl, ⟨Tryz.t46, by kernel_rfl, by kernel_rfl, by kernel_rfl, (fun z h => by cases h; exact ⟨_, rfl, by kernel_rfl⟩)⟩, (fun h => by cases h), (fun h => absurd rfl h)⟩
theorem tok47 : M.TI.Ok Tryz.prog 47 ti47 := ⟨by kernel_rfl, ⟨Tryz.t47, by kernel_rfl, by kernel_rfl, by kernel_rfl, (fun z h => by cases h; exact ⟨_, rfl, by kernel_rfl⟩)⟩, (fun _ => rfl), (fun h => absurd rfl h)⟩
theorem tok48 : M.TI.Ok Tryz.prog 48 ti48 := ⟨by kernel_rfl, ⟨Tryz.t48, by kernel_rfl, by kernel_rfl, by kernel_rfl, (fun z h => by cases h; exact ⟨_, rfl, by kernel_rfl⟩)⟩, (fun _ => rfl), (fun h => absurd rfl h)⟩
theorem tok49 : M.TI.Ok Tryz.prog 49 ti49 := ⟨by kernel_rfl, ⟨Tryz.t49, by kernel_rfl, by kernel_rfl, by kernel_rfl, (fun z h => by cases h; exact ⟨_, rfl, by kernel_rfl⟩)⟩, (fun h => by cases h), (fun h => absurd rfl h)⟩
theorem tok50 : M.TI.Ok Tryz.prog 50 ti50 := ⟨by kernel_rfl, ⟨Tryz.t50, by kernel_rfl, by kernel_rfl, by kernel_rfl, (fun z h => by cases h; exact ⟨_, rfl, by kernel_rfl⟩)⟩, (fun h => by cases h), (fun h => absurd rfl h)⟩
theorem tok51 : M.TI.Ok Tryz.prog 51 ti51 := ⟨by kernel_rfl, ⟨Tryz.t51, by kernel_rfl, by kernel_rfl, by kernel_rfl, (fun z h => by cases h; exact ⟨_, rfl, by kernel_rfl⟩)⟩, (fun _ => rfl), (fun h => absurd rfl h)⟩
theorem tok52 : M.TI.Ok Tryz.prog 52 ti52 := ⟨by kernel_rfl, ⟨Tryz.t52, by kernel_rfl, by kernel_rfl, by kernel_rfl, (fun z h => by cases h; exact ⟨_, rfl, by kernel_rfl⟩)⟩, (fun h => by cases h), (fun _ => ⟨by kernel_rfl, by kernel_rfl⟩)⟩
theorem tok53 : M.TI.Ok Tryz.prog 53 ti53 := ⟨by kernel_rfl, ⟨Tryz.t53, by kernel_rfl, by kernel_rfl, by kernel_rfl, (fun z h => by cases h; exact ⟨_, rfl, by kernel_rfl⟩)⟩, (fun h => by cases h), (fun _ => ⟨by kernel_rfl, by kernel_rfl⟩)⟩
theorem tok54 : M.TI.Ok Tryz.prog 54 ti54 := ⟨by kernel_rfl, ⟨Tryz.t54, by kernel_rfl, by kernel_rfl, by kernel_rfl, (fun z h => by cases h; exact ⟨_, rfl, by kernel_rfl⟩)⟩, (fun _ => rfl), (fun h => absurd rfl h)⟩
theorem tok55 : M.TI.Ok Tryz.prog 55 ti55 := ⟨by kernel_rfl, ⟨Tryz.t55, by kernel_rfl, by kernel_rfl, by kernel_rfl, (fun z h => by cases h; exact ⟨_, rfl, by kernel_rfl⟩)⟩, (fun _ => rfl), (fun h => absurd rfl h)⟩
theorem tok56 : M.TI.Ok Tryz.prog 56 ti56 := ⟨by kernel_rfl, ⟨Tryz.t56, by kernel_rfl, by kernel_rfl, by kernel_rfl, (fun z h => by cases h; exact ⟨_, rfl, by kernel_rfl⟩)⟩, (fun _ => rfl), (fun h => absurd rfl h)⟩
theorem tok57 : M.TI.Ok Tryz.prog 57 ti57 := ⟨by kernel_rfl, ⟨Tryz.t57, by kernel_rfl, by kernel_rfl, by kernel_rfl, (fun z h => by cases h; exact ⟨_, rfl, by kernel_rfl⟩)⟩, (fun _ => rfl), (fun h => absurd rfl h)⟩
theorem tok58 : M.TI.Ok Tryz.prog 58 ti58 := ⟨by kernel_rfl, ⟨Tryz.t58, by kernel_rfl, by kernel_rfl, by kernel_rfl, (fun z h => by cases h; exact ⟨_, rfl, by kernel_rfl⟩)⟩, (fun _ => rfl), (fun h => absurd rfl h)⟩
theorem tok59 : M.TI.Ok Tryz.prog 59 ti59 := ⟨by kernel_rfl, ⟨Tryz.t59, by kernel_rfl, by kernel_rfl, by kernel_rfl, (fun z h => by cases h; exact ⟨_, rfl, by kernel_rfl⟩)⟩, (fun _ => rfl), (fun h => absurd rfl h)⟩
theorem tok60 : M.TI.Ok Tryz.prog 60 ti60 := ⟨by kernel_rfl, ⟨Tryz.t60, by kernel_rfl, by kernel_rfl, by kernel_rfl, (fun z h => by cases h; exact ⟨_, rfl, by kernel_rfl⟩)⟩, (fun _ => rfl), (fun h => absurd rfl h)⟩
theorem tok61 : M.TI.Ok Tryz.prog 61 ti61 := ⟨by kernel_rfl, ⟨Tryz.t61, by kernel_rfl, by kernel_rfl, by kernel_rfl, (fun z h => by cases h; exact ⟨_, rfl, by kernel_rfl⟩)⟩, (fun h => by cases h), (fun h => absurd rfl h)⟩
theorem tok62 : M.TI.Ok Tryz.prog 62 ti62 := ⟨by kernel_rfl, ⟨Tryz.t62, by kernel_rfl, by kernel_rfl, by kernel_rfl, (fun z h => by cases h; exact ⟨_, rfl, by kernel_rfl⟩)⟩, (fun h => by cases h), (fun h => absurd rfl h)⟩
theorem tok63 : M.TI.Ok Tryz.prog 63 ti63 := ⟨by kernel_rfl, ⟨Tryz.t63, by kernel_rfl, by kernel_rfl, by kernel_rfl, (fun z h => by cases h; exact ⟨_, rfl, by kernel_rfl⟩)⟩, (fun _ => rfl), (fun h => absurd rfl h)⟩
theorem tok64 : M.TI.Ok Tryz.prog 64 ti64 := ⟨by kernel_rfl, ⟨Tryz.t64, by kernel_rfl, by kernel_rfl, by kernel_rfl, (fun z h => by cases h; exact ⟨_, rfl, by kernel_rfl⟩)⟩, (fun h => by cases h), (fun h => absurd rfl h)⟩
theorem tok65 : M.TI.Ok Tryz.prog 65 ti65 := ⟨by kernel_rfl, ⟨Tryz.t65, by kernel_rfl, by kernel_rfl, by kernel_rfl, (fun z h => by cases h; exact ⟨_, rfl, by kernel_rfl⟩)⟩, (fun h => by cases h), (fun h => absurd rfl h)⟩
theorem tok66 : M.TI.Ok Tryz.prog 66 ti66 := ⟨by kernel_rfl, ⟨Tryz.t66, by kernel_rfl, by kernel_rfl, by kernel_rfl, (fun z h => by cases h; exact ⟨_, rfl, by kernel_rfl⟩)⟩, (fun h => by cases h), (fun _ => ⟨by kernel_rfl, by kernel_rfl⟩)⟩
theorem tok67 : M.TI.Ok Tryz.prog 67 ti67 := ⟨by kernel_rfl, ⟨Tryz.t67, by kernel_rfl, by kernel_rfl, by kernel_rfl, (fun z h => by cases h; exact ⟨_, rfl, by kernel_rfl⟩)⟩, (fun h => by cases h), (fun _ => ⟨by kernel_rfl, by kernel_rfl⟩)⟩
theorem tok68 : M.TI.Ok Tryz.prog 68 ti68 := ⟨by kernel_rfl, ⟨Tryz.t68, by kernel_rfl, by kernel_rfl, by kernel_rfl, (fun z h => by cases h; exact ⟨_, rfl, by kernel_rfl⟩)⟩, (fun h => by cases h), (fun _ => ⟨by kernel_rfl, by kernel_rfl⟩)⟩
theorem tok69 : M.TI.Ok Tryz.prog 69 ti69 := ⟨by kernel_rfl, ⟨Tryz.t69, by kernel_rfl, by kernel_rfl, by kernel_rfl, (fun z h => by cases h; exact ⟨_, rfl, by kernel_rfl⟩)⟩, (fun h => by cases h), (fun _ => ⟨by kernel_rfl, by kernel_rfl⟩)⟩
theorem tok70 : M.TI.Ok Tryz.prog 70 ti70 := ⟨by kernel_rfl, ⟨Tryz.t70, by kernel_rfl, by kernel_rfl, by kernel_rfl, (fun z h => by cases h; exact ⟨_, rfl, by kernel_rfl⟩)⟩, (fun _ => rfl), (fun h => absurd rfl h)⟩
theorem tok71 : M.TI.Ok Tryz.prog 71 ti71 := ⟨by kernel_rfl, ⟨Tryz.t71, by kernel_rfl, by kernel_rfl, by kernel_rfl, (fun z h => by cases h; exact ⟨_, rfl, by kernel_rfl⟩)⟩, (fun _ => rfl), (fun h => absurd rfl h)⟩
theorem tok72 : M.TI.Ok Tryz.prog 72 ti72 := ⟨by kernel_rfl, ⟨Tryz.t72, by kernel_rfl, by kernel_rfl, by kernel_rfl, (fun z h => by cases h; exact ⟨_, rfl, by kernel_rfl⟩)⟩, (fun h => by cases h), (fun h => absurd rfl h)⟩
theorem tok73 : M.TI.Ok Tryz.prog 73 ti73 := ⟨by kernel_rfl, ⟨Tryz.t73, by kernel_rfl, by kernel_rfl, by kernel_rfl, (fun z h => by cases h; exact ⟨_, rfl, by kernel_rfl⟩)⟩, (fun h => by cases h), (fun h => absurd rfl h)⟩
theorem tok74 : M.TI.Ok Tryz.prog 74 ti74 := ⟨by kernel_rfl, ⟨Tryz.t74, by kernel_rfl, by kernel_rfl, by kernel_rfl, (fun z h => by cases h; exact ⟨_, rfl, by kernel_rfl⟩)⟩, (fun h => by cases h), (fun h => absurd rfl h)⟩
theorem tok75 : M.TI.Ok Tryz.prog 75 ti75 := ⟨by kernel_rfl, ⟨Tryz.t75, by kernel_rfl, by kernel_rfl, by kernel_rfl, (fun z h => by cases h; exact ⟨_, rfl, by kernel_rfl⟩)⟩, (fun h => by cases h), (fun h => absurd rfl h)⟩
theorem tok76 : M.TI.Ok Tryz.prog 76 ti76 := ⟨by kernel_rfl, ⟨Tryz.t76, by kernel_rfl, by kernel_rfl, by kernel_rfl, (fun z h => by cases h; exact ⟨_, rfl, by kernel_rfl⟩)⟩, (fun h => by cases h), (fun h => absurd rfl h)⟩
theorem tok77 : M.TI.Ok Tryz.prog 77 ti77 := ⟨by kernel_rfl, ⟨Tryz.t77, by kernel_rfl, by kernel_rfl, by kernel_rfl, (fun z h => by cases h; exact ⟨_, rfl, by kernel_rfl⟩)⟩, (fun _ => rfl), (fun h => absurd rfl h)⟩
theorem tok78 : M.TI.Ok Tryz.prog 78 ti78 := ⟨by kernel_rfl, ⟨Tryz.t78, by kernel_rfl, by kernel_rfl, by kernel_rfl, (fun z h => by cases h; exact ⟨_, rfl, by kernel_rfl⟩)⟩, (fun h => by cases h), (fun h => absurd rfl h)⟩
theorem tok79 : M.TI.Ok Tryz.prog 79 ti79 := ⟨by kernel_rfl, ⟨Tryz.t79, by kernel_rfl, by kernel_rfl, by kernel_rfl, (fun z h => by cases h; exact ⟨_, rfl, by kernel_rfl⟩)⟩, (fun h => by cases h), (fun h => absurd rfl h)⟩
theorem tok80 : M.TI.Ok Tryz.prog 80 ti80 := ⟨by kernel_rfl, ⟨Tryz.t80, by kernel_rfl, by kernel_rfl, by kernel_rfl, (fun z h => by cases h; exact ⟨_, rfl, by kernel_rfl⟩)⟩, (fun h => by cases h), (fun h => absurd rfl h)⟩
theorem tok81 : M.TI.Ok Tryz.prog 81 ti81 := ⟨by kernel_rfl, ⟨Tryz.t81, by kernel_rfl, by kernel_rfl, by kernel_rfl, (fun z h => by cases h; exact ⟨_, rfl, by kernel_rfl⟩)⟩, (fun h => by cases h), (fun h => absurd rfl h)⟩
theorem tok82 : M.TI.Ok Tryz.prog 82 ti82 := ⟨by kernel_rfl, ⟨Tryz.t82, by kernel_rfl, by kernel_rfl, by kernel_rfl, (fun z h => by cases h; exact ⟨_, rfl, by kernel_rfl⟩)⟩, (fun _ => rfl), (fun h => absurd rfl h)⟩
theorem tok83 : M.TI.Ok Tryz.prog 83 ti83 := ⟨by kernel_rfl, ⟨Tryz.t83, by kernel_rfl, by kernel_rfl, by kernel_rfl, (fun z h => by cases h; exact ⟨_, rfl, by kernel_rfl⟩)⟩, (fun _ => rfl), (fun h => absurd rfl h)⟩
theorem tok84 : M.TI.Ok Tryz.prog 84 ti84 := ⟨by kernel_rfl, ⟨Tryz.t84, by kernel_rfl, by kernel_rfl, by kernel_rfl, (fun z h => by cases h; exact ⟨_, rfl, by kernel_rfl⟩)⟩, (fun _ => rfl), (fun h => absurd rfl h)⟩
theorem tok85 : M.TI.Ok Tryz.prog 85 ti85 := ⟨by kernel_rfl, ⟨Tryz.t85, by kernel_rfl, by kernel_rfl, by kernel_rfl, (fun z h => by cases h; exact ⟨_, rfl, by kernel_rfl⟩)⟩, (fun _ => rfl), (fun h => absurd rfl h)⟩
theorem tok86 : M.TI.Ok Tryz.prog 86 ti86 := ⟨by kernel_rfl, ⟨Tryz.t86, by kernel_rfl, by kernel_rfl, by kernel_rfl, (fun z h => by cases h; exact ⟨_, rfl, by kernel_rfl⟩)⟩, (fun _ => rfl), (fun h => absurd rfl h)⟩
theorem tok87 : M.TI.Ok Tryz.prog 87 ti87 := ⟨by kernel_rfl, ⟨Tryz.t87, by kernel_rfl, by kernel_rfl, by kernel_rfl, (fun z h => by cases h; exact ⟨_, rfl, by kernel_rfl⟩)⟩, (fun _ => rfl), (fun h => absurd rfl h)⟩
theorem tok88 : M.TI.Ok Tryz.prog 88 ti88 := ⟨by kernel_rfl, ⟨Tryz.t88, by kernel_rfl, by kernel_rfl, by kernel_rfl, (fun z h => by cases h; exact ⟨_, rfl, by kernel_rfl⟩)⟩, (fun _ => rfl), (fun h => absurd rfl h)⟩
theorem tok89 : M.TI.Ok Tryz.prog 89 ti89 := ⟨by kernel_rfl, ⟨Tryz.t89, by kernel_rfl, by kernel_rfl, by kernel_rfl, (fun z h => by cases h; exact ⟨_, rfl, by kernel_rfl⟩)⟩, (fun h => by cases h), (fun h => absurd rfl h)⟩
theorem tok90 : M.TI.Ok Tryz.prog 90 ti90 := ⟨by kernel_rfl, ⟨Tryz.t90, by kernel_rfl, by kernel_rfl, by kernel_rfl, (fun z h => by cases h; exact ⟨_, rfl, by kernel_rfl⟩)⟩, (fun h => by cases h), (fun h => absurd rfl h)⟩
theorem tok91 : M.TI.Ok Tryz.prog 91 ti91 := ⟨by kernel_rfl, ⟨Tryz.t91, by kernel_rfl, by kernel_rfl, by kernel_rfl, (fun z h => by cases h; exact ⟨_, rfl, by kernel_rfl⟩)⟩, (fun _ => rfl), (fun h => absurd rfl h)⟩
theorem tok92 : M.TI.Ok Tryz.prog 92 ti92 := ⟨by kernel_rfl, ⟨Tryz.t92, by kernel_rfl, by kernel_rfl, by kernel_rfl, (fun z h => by cases h; exact ⟨_, rfl, by kernel_rfl⟩)⟩, (fun _ => rfl), (fun h => absurd rfl h)⟩
theorem tok93 : M.TI.Ok Tryz.prog 93 ti93 := ⟨by kernel_rfl, ⟨Tryz.t93, by kernel_rfl, by kernel_rfl, by kernel_rfl, (fun z h => by cases h; exact ⟨_, rfl, by kernel_rfl⟩)⟩, (fun _ => rfl), (fun h => absurd rfl h)⟩
theorem tok94 : M.TI.Ok Tryz.prog 94 ti94 := ⟨by kernel_rfl, ⟨Tryz.t94, by kernel_rfl, by kernel_rfl, by kernel_rfl, (fun z h => by cases h)⟩, (fun _ => rfl), (fun h => absurd rfl h)⟩
theorem tok95 : M.TI.Ok Tryz.prog 95 ti95 := ⟨by kernel_rfl, ⟨Tryz.t95, by kernel_rfl, by kernel_rfl, by kernel_rfl, (fun z h => by cases h; exact ⟨_, rfl, by kernel_rfl⟩)⟩, (fun _ => rfl), (fun h => absurd rfl h)⟩
theorem tok96 : M.TI.Ok Tryz.prog 96 ti96 := ⟨by kernel_rfl, ⟨Tryz.t96, by kernel_rfl, by kernel_rfl, by kernel_rfl, (fun z h => by cases h; exact ⟨_, rfl, by kernel_rfl⟩)⟩, (fun _ => rfl), (fun h => absurd rfl h)⟩
theorem tok97 : M.TI.Ok Tryz.prog 97 ti97 := ⟨by kernel_rfl, ⟨Tryz.t97, by kernel_rfl, by kernel_rfl, by kernel_rfl, (fun z h => by cases h; exact ⟨_, rfl, by kernel_rfl⟩)⟩, (fun _ => rfl), (fun h => absurd rfl h)⟩
theorem tok98 : M.TI.Ok Tryz.prog 98 ti98 := ⟨by kernel_rfl, ⟨Tryz.t98, by kernel_rfl, by kernel_rfl, by kernel_rfl, (fun z h => by cases h; exact ⟨_, rfl, by kernel_rfl⟩)⟩, (fun _ => rfl), (fun h => absurd rfl h)⟩
theorem tok99 : M.TI.Ok Tryz.prog 99 ti99 := ⟨by kernel_rfl, ⟨Tryz.t99, by kernel_rfl, by kernel_rfl, by kernel_rfl, (fun z h => by cases h; exact ⟨_, rfl, by kernel_rfl⟩)⟩, (fun _ => rfl), (fun h => absurd rfl h)⟩
theorem tok100 : M.TI.Ok Tryz.prog 100 ti100 := ⟨by kernel_rfl, ⟨Tryz.t100, by kernel_rfl, by kernel_rfl, by kernel_rfl, (fun z h => by cases h; exact ⟨_, rfl, by kernel_rfl⟩)⟩, (fun _ => rfl), (fun h => absurd rfl h)⟩
theorem tok101 : M.TI.Ok Tryz.prog 101 ti101 := ⟨by kernel_rfl, ⟨Tryz.t101, by kernel_rfl, by kernel_rfl, by kernel_rfl, (fun z h => by cases h; exact ⟨_, rfl, by kernel_rfl⟩)⟩, (fun _ => rfl), (fun h => absurd rfl h)⟩
theorem tok102 : M.TI.Ok Tryz.prog 102 ti102 := ⟨by kernel_rfl, ⟨Tryz.t102, by kernel_rfl, by kernel_rfl, by kernel_rfl, (fun z h => by cases h)⟩, (fun _ => rfl), (fun h => absurd rfl h)⟩
theorem tok103 : M.TI.Ok Tryz.prog 103 ti103 := ⟨by kernel_rfl, ⟨Tryz.t103, by kernel_rfl, by kernel_rfl, by kernel_rfl, (fun z h => by cases h; exact ⟨_, rfl, by kernel_rfl⟩)⟩, (fun _ => rfl), (fun h => absurd rfl h)⟩
theorem tok104 : M.TI.Ok Tryz.prog 104 ti104 := ⟨by kernel_rfl, ⟨Tryz.t104, by kernel_rfl, by kernel_rfl, by kernel_rfl, (fun z h => by cases h)⟩, (fun _ => rfl), (fun h => absurd rfl h)⟩
theorem tok105 : M.TI.Ok Tryz.prog 105 ti105 := ⟨by kernel_rfl, ⟨Tryz.t105, by kernel_rfl, by kernel_rfl, by kernel_rfl, (fun z h => by cases h; exact ⟨_, rfl, by kernel_rfl⟩)⟩, (fun _ => rfl), (fun h => absurd rfl h)⟩
theorem tok106 : M.TI.Ok Tryz.prog 106 ti106 := ⟨by kernel_rfl, ⟨Tryz.t106, by kernel_rfl, by kernel_rfl, by kernel_rfl, (fun z h => by cases h; exact ⟨_, rfl, by kernel_rfl⟩)⟩, (fun _ => rfl), (fun h => absurd rfl h)⟩
theorem tok107 : M.TI.Ok Tryz.prog 107 ti107 := ⟨by kernel_rfl, ⟨Tryz.t107, by kernel_rfl, by kernel_rfl, by kernel_rfl, (fun z h => by cases h; exact ⟨_, rfl, by kernel_rfl⟩)⟩, (fun _ => rfl), (fun h => absurd rfl h)⟩
theorem tok108 : M.TI.Ok Tryz.prog 108 ti108 := ⟨by kernel_rfl, ⟨Tryz.t108, by kernel_rfl, by kernel_rfl, by kernel_rfl, (fun z h => by cases h; exact ⟨_, rfl, by kernel_rfl⟩)⟩, (fun _ => rfl), (fun h => absurd rfl h)⟩
theorem tok109 : M.TI.Ok Tryz.prog 109 ti109 := ⟨by kernel_rfl, ⟨Tryz.t109, by kernel_rfl, by kernel_rfl, by kernel_rfl, (fun z h => by cases h; exact ⟨_, rfl, by kernel_rfl⟩)⟩, (fun _ => rfl), (fun h => absurd rfl h)⟩
theorem tok110 : M.TI.Ok Tryz.prog 110 ti110 := ⟨by kernel_rfl, ⟨Tryz.t110, by kernel_rfl, by kernel_rfl, by kernel_rfl, (fun z h => by cases h; exact ⟨_, rfl, by kernel_rfl⟩)⟩, (fun _ => rfl), (fun h => absurd rfl h)⟩
theorem tok111 : M.TI.Ok Tryz.prog 111 ti111 := ⟨by kernel_rfl, ⟨Tryz.t111, by kernel_rfl, by kernel_rfl, by kernel_rfl, (fun z h => by cases h; exact ⟨_, rfl, by kernel_rfl⟩)⟩, (fun _ => rfl), (fun h => absurd rfl h)⟩
theorem tok112 : M.TI.Ok Tryz.prog 112 ti112 := ⟨by kernel_rfl, ⟨Tryz.t112, by kernel_rfl, by kernel_rfl, by kernel_rfl, (fun z h => by cases h; exact ⟨_, rfl, by kernel_rfl⟩)⟩, (fun _ => rfl), (fun h => absurd rfl h)⟩
theorem tok113 : M.TI.Ok Tryz.prog 113 ti113 := ⟨by kernel_rfl, ⟨Tryz.t113, by kernel_rfl, by kernel_rfl, by kernel_rfl, (fun z h => by cases h; exact ⟨_, rfl, by kernel_rfl⟩)⟩, (fun _ => rfl), (fun h => absurd rfl h)⟩
theorem tok114 : M.TI.Ok Tryz.prog 114 ti114 := ⟨by kernel_rfl, ⟨Tryz.t114, by kernel_rfl, by kernel_rfl, by kernel_rfl, (fun z h => by cases h; exact ⟨_, rfl, by kernel_rfl⟩)⟩, (fun _ => rfl), (fun h => absurd rfl h)⟩
theorem tok115 : M.TI.Ok Tryz.prog 115 ti115 := ⟨by kernel_rfl, ⟨Tryz.t115, by kernel_rfl, by kernel_rfl, by kernel_rfl, (fun z h => by cases h; exact ⟨_, rfl, by kernel_rfl⟩)⟩, (fun _ => rfl), (fun h => absurd rfl h)⟩
theorem tok116 : M.TI.Ok Tryz.prog 116 ti116 := ⟨by kernel_rfl, ⟨Tryz.t116, by kernel_rfl, by kernel_rfl, by kernel_rfl, (fun z h => by cases h; exact ⟨_, rfl, by kernel_rfl⟩)⟩, (fun _ => rfl), (fun h => absurd rfl h)⟩
theorem tok117 : M.TI.Ok Tryz.prog 117 ti117 := ⟨by kernel_rfl, ⟨Tryz.t117, by kernel_rfl, by kernel_rfl, by kernel_rfl, (fun z h => by cases h; exact ⟨_, rfl, by kernel_rfl⟩)⟩, (fun _ => rfl), (fun h => absurd rfl h)⟩
theorem tok118 : M.TI.Ok Tryz.prog 118 ti118 := ⟨by kernel_rfl, ⟨Tryz.t118, by kernel_rfl, by kernel_rfl, by kernel_rfl, (fun z h => by cases h; exact ⟨_, rfl, by kernel_rfl⟩)⟩, (fun _ => rfl), (fun h => absurd rfl h)⟩
theorem tok119 : M.TI.Ok Tryz.prog 119 ti119 := ⟨by kernel_rfl, ⟨Tryz.t119, by kernel_rfl, by kernel_rfl, by kernel_rfl, (fun z h => by cases h; exact ⟨_, rfl, by kernel_rfl⟩)⟩, (fun _ => rfl), (fun h => absurd rfl h)⟩
theorem tok120 : M.TI.Ok Tryz.prog 120 ti120 := ⟨by kernel_rfl, ⟨Tryz.t120, by kernel_rfl, by kernel_rfl, by kernel_rfl, (fun z h => by cases h; exact ⟨_, rfl, by kernel_rfl⟩)⟩, (fun _ => rfl), (fun h => absurd rfl h)⟩
theorem tok121 : M.TI.Ok Tryz.prog 121 ti121 := ⟨by kernel_rfl, ⟨Tryz.t121, by kernel_rfl, by kernel_rfl, by kernel_rfl, (fun z h => by cases h; exact ⟨_, rfl, by kernel_rfl⟩)⟩, (fun _ => rfl), (fun h => absurd rfl h)⟩
theorem tok122 : M.TI.Ok Tryz.prog 122 ti122 := ⟨by kernel_rfl, ⟨Tryz.t122, by kernel_rfl, by kernel_rfl, by kernel_rfl, (fun z h => by cases h; exact ⟨_, rfl, by kernel_rfl⟩)⟩, (fun _ => rfl), (fun h => absurd rfl h)⟩
theorem tok123 : M.TI.Ok Tryz.prog 123 ti123 := ⟨by kernel_rfl, ⟨Tryz.t123, by kernel_rfl, by kernel_rfl, by kernel_rfl, (fun z h => by cases h)⟩, (fun _ => rfl), (fun h => absurd rfl h)⟩
theorem tok124 : M.TI.Ok Tryz.prog 124 ti124 := ⟨by kernel_rfl, ⟨Tryz.t124, by kernel_rfl, by kernel_rfl, by kernel_rfl, (fun z h => by cases h; exact ⟨_, rfl, by kernel_rfl⟩)⟩, (fun _ => rfl), (fun h => absurd rfl h)⟩
theorem tok125 : M.TI.Ok Tryz.prog 125 ti125 := ⟨by kernel_rfl, ⟨Tryz.t125, by kernel_rfl, by kernel_rfl, by kernel_rfl, (fun z h => by cases h; exact ⟨_, rfl, by kernel_rfl⟩)⟩, (fun _ => rfl), (fun h => absurd rfl h)⟩
theorem tok126 : M.TI.Ok Tryz.prog 126 ti126 := ⟨by kernel_rfl, ⟨Tryz.t126, by kernel_rfl, by kernel_rfl, by kernel_rfl, (fun z h => by cases h; exact ⟨_, rfl, by kernel_rfl⟩)⟩, (fun _ => rfl), (fun h => absurd rfl h)⟩
theorem tok127 : M.TI.Ok Tryz.prog 127 ti127 := ⟨by kernel_rfl, ⟨Tryz.t127, by kernel_rfl, by kernel_rfl, by kernel_rfl, (fun z h => by cases h; exact ⟨_, rfl, by kernel_rfl⟩)⟩, (fun _ => rfl), (fun h => absurd rfl h)⟩
theorem tok128 : M.TI.Ok Tryz.prog 128 ti128 := ⟨by kernel_rfl, ⟨Tryz.t128, by kernel_rfl, by kernel_rfl, by kernel_rfl, (fun z h => by cases h; exact ⟨_, rfl, by kernel_rfl⟩)⟩, (fun _ => rfl), (fun h => absurd rfl h)⟩
theorem tok129 : M.TI.Ok Tryz.prog 129 ti129 := ⟨by kernel_rfl, ⟨Tryz.t129, by kernel_rfl, by kernel_rfl, by kernel_rfl, (fun z h => by cases h; exact ⟨_, rfl, by kernel_rfl⟩)⟩, (fun _ => rfl), (fun h => absurd rfl h)⟩
theorem tok130 : M.TI.Ok Tryz.prog 130 ti130 := ⟨by kernel_rfl, ⟨Tryz.t130, by kernel_rfl, by kernel_rfl, by kernel_rfl, (fun z h => by cases h; exact ⟨_, rfl, by kernel_rfl⟩)⟩, (fun _ => rfl), (fun h => absurd rfl h)⟩
theorem tok131 : M.TI.Ok Tryz.prog 131 ti131 := ⟨by kernel_rfl, ⟨Tryz.t131, by kernel_rfl, by kernel_rfl, by kernel_rfl, (fun z h => by cases h)⟩, (fun _ => rfl), (fun h => absurd rfl h)⟩
theorem tok132 : M.TI.Ok Tryz.prog 132 ti132 := ⟨by kernel_rfl, ⟨Tryz.t132, by kernel_rfl, by kernel_rfl, by kernel_rfl, (fun z h => by cases h; exact ⟨_, rfl, by kernel_rfl⟩)⟩, (fun _ => rfl), (fun h => absurd rfl h)⟩
theorem tok133 : M.TI.Ok Tryz.prog 133 ti133 := ⟨by kernel_rfl, ⟨Tryz.t133, by kernel_rfl, by kernel_rfl, by kernel_rfl, (fun z h => by cases h; exact ⟨_, rfl, by kernel_rfl⟩)⟩, (fun _ => rfl), (fun h => absurd rfl h)⟩
theorem tok134 : M.TI.Ok Tryz.prog 134 ti134 := ⟨by kernel_rfl, ⟨Tryz.t134, by kernel_rfl, by kernel_rfl, by kernel_rfl, (fun z h => by cases h; exact ⟨_, rfl, by kernel_rfl⟩)⟩, (fun _ => rfl), (fun h => absurd rfl h)⟩
theorem tok135 : M.TI.Ok Tryz.prog 135 ti135 := ⟨by kernel_rfl, ⟨Tryz.t135, by kernel_rfl, by kernel_rfl, by kernel_rfl, (fun z h => by cases h)⟩, (fun _ => rfl), (fun h => absurd rfl h)⟩
theorem tok136 : M.TI.Ok Tryz.prog 136 ti136 := ⟨by kernel_rfl, ⟨Tryz.t136, by kernel_rfl, by kernel_rfl, by kernel_rfl, (fun z h => by cases h; exact ⟨_, rfl, by kernel_rfl⟩)⟩, (fun _ => rfl), (fun h => absurd rfl h)⟩
theorem tok137 : M.TI.Ok Tryz.prog 137 ti137 := ⟨by kernel_rfl, ⟨Tryz.t137, by kernel_rfl, by kernel_rfl, by kernel_rfl, (fun z h => by cases h; exact ⟨_, rfl, by kernel_rfl⟩)⟩, (fun _ => rfl), (fun h => absurd rfl h)⟩
theorem tok138 : M.TI.Ok Tryz.prog 138 ti138 := ⟨by kernel_rfl, ⟨Tryz.t138, by kernel_rfl, by kernel_rfl, by kernel_rfl, (fun z h => by cases h; exact ⟨_, rfl, by kernel_rfl⟩)⟩, (fun _ => rfl), (fun h => absurd rfl h)⟩
theorem tok139 : M.TI.Ok Tryz.prog 139 ti139 := ⟨by kernel_rfl, ⟨Tryz.t139, by kernel_rfl, by kernel_rfl, by kernel_rfl, (fun z h => by cases h; exact ⟨_, rfl, by kernel_rfl⟩)⟩, (fun _ => rfl), (fun h => absurd rfl h)⟩
theorem tok140 : M.TI.Ok Tryz.prog 140 ti140 := ⟨by kernel_rfl, ⟨Tryz.t140, by kernel_rfl, by kernel_rfl, by kernel_rfl, (fun z h => by cases h; exact ⟨_, rfl, by kernel_rfl⟩)⟩, (fun _ => rfl), (fun h => absurd rfl h)⟩
theorem tok141 : M.TI.Ok Tryz.prog 141 ti141 := ⟨by kernel_rfl, ⟨Tryz.t141, by kernel_rfl, by kernel_rfl, by kernel_rfl, (fun z h => by cases h; exact ⟨_, rfl, by kernel_rfl⟩)⟩, (fun h => by cases h), (fun h => absurd rfl h)⟩
theorem tok142 : M.TI.Ok Tryz.prog 142 ti142 := ⟨by kernel_rfl, ⟨Tryz.t142, by kernel_rfl, by kernel_rfl, by kernel_rfl, (fun z h => by cases h; exact ⟨_, rfl, by kernel_rfl⟩)⟩, (fun h => by cases h), (fun h => absurd rfl h)⟩
theorem tok143 : M.TI.Ok Tryz.prog 143 ti143 := ⟨by kernel_rfl, ⟨Tryz.t143, by kernel_rfl, by kernel_rfl, by kernel_rfl, (fun z h => by cases h; exact ⟨_, rfl, by kernel_rfl⟩)⟩, (fun _ => rfl), (fun h => absurd rfl h)⟩
theorem tok144 : M.TI.Ok Tryz.prog 144 ti144 := ⟨by kernel_rfl, ⟨Tryz.t144, by kernel_rfl, by kernel_rfl, by kernel_rfl, (fun z h => by cases h; exact ⟨_, rfl, by kernel_rfl⟩)⟩, (fun _ => rfl), (fun h => absurd rfl h)⟩
theorem tok145 : M.TI.Ok Tryz.prog 145 ti145 := ⟨by kernel_rfl, ⟨Tryz.t145, by kernel_rfl, by kernel_rfl, by kernel_rfl, (fun z h => by cases h; exact ⟨_, rfl, by kernel_rfl⟩)⟩, (fun _ => rfl), (fun h => absurd rfl h)⟩
theorem tok146 : M.TI.Ok Tryz.prog 146 ti146 := ⟨by kernel_rfl, ⟨Tryz.t146, by kernel_rfl, by kernel_rfl, by kernel_rfl, (fun z h => by cases h; exact ⟨_, rfl, by kernel_rfl⟩)⟩, (fun _ => rfl), (fun h => absurd rfl h)⟩
theorem tok147 : M.TI.Ok Tryz.prog 147 ti147 := ⟨by kernel_rfl, ⟨Tryz.t147, by kernel_rfl, by kernel_rfl, by kernel_rfl, (fun z h => by cases h; exact ⟨_, rfl, by kernel_rfl⟩)⟩, (fun _ => rfl), (fun h => absurd rfl h)⟩
theorem tok148 : M.TI.Ok Tryz.prog 148 ti148 := ⟨by kernel_rfl, ⟨Tryz.t148, by kernel_rfl, by kernel_rfl, by kernel_rfl, (fun z h => by cases h)⟩, (fun _ => rfl), (fun h => absurd rfl h)⟩
theorem tok149 : M.TI.Ok Tryz.prog 149 ti149 := ⟨by kernel_rfl, ⟨Tryz.t149, by kernel_rfl, by kernel_rfl, by kernel_rfl, (fun z h => by cases h; exact ⟨_, rfl, by kernel_rfl⟩)⟩, (fun _ => rfl), (fun h => absurd rfl h)⟩
theorem tok150 : M.TI.Ok Tryz.prog 150 ti150 := ⟨by kernel_rfl, ⟨Tryz.t150, by kernel_rfl, by kernel_rfl, by kernel_rfl, (fun z h => by cases h; exact ⟨_, rfl, by kernel_rfl⟩)⟩, (fun _ => rfl), (fun h => absurd rfl h)⟩
theorem tok151 : M.TI.Ok Tryz.prog 151 ti151 := ⟨by kernel_rfl, ⟨Tryz.t151, by kernel_rfl, by kernel_rfl, by kernel_rfl, (fun z h => by cases h; exact ⟨_, rfl, by kernel_rfl⟩)⟩, (fun _ => rfl), (fun h => absurd rfl h)⟩
theorem tok152 : M.TI.Ok Tryz.prog 152 ti152 := ⟨by kernel_rfl, ⟨Tryz.t152, by kernel_rfl, by kernel_rfl, by kernel_rfl, (fun z h => by cases h; exact ⟨_, rfl, by kernel_rfl⟩)⟩, (fun _ => rfl), (fun h => absurd rfl h)⟩
theorem tok153 : M.TI.Ok Tryz.prog 153 ti153 := ⟨by kernel_rfl, ⟨Tryz.t153, by kernel_rfl, by kernel_rfl, by kernel_rfl, (fun z h => by cases h; exact ⟨_, rfl, by kernel_rfl⟩)⟩, (fun _ => rfl), (fun h => absurd rfl h)⟩
theorem tok154 : M.TI.Ok Tryz.prog 154 ti154 := ⟨by kernel_rfl, ⟨Tryz.t154, by kernel_rfl, by kernel_rfl, by kernel_rfl, (fun z h => by cases h; exact ⟨_, rfl, by kernel_rfl⟩)⟩, (fun _ => rfl), (fun h => absurd rfl h)⟩
theorem tok155 : M.TI.Ok Tryz.prog 155 ti155 := ⟨by kernel_rfl, ⟨Tryz.t155, by kernel_rfl, by kernel_rfl, by kernel_rfl, (fun z h => by cases h; exact ⟨_, rfl, by kernel_rfl⟩)⟩, (fun _ => rfl), (fun h => absurd rfl h)⟩
theorem tok156 : M.TI.Ok Tryz.prog 156 ti156 := ⟨by kernel_rfl, ⟨Tryz.t156, by kernel_rfl, by kernel_rfl, by kernel_rfl, (fun z h => by cases h)⟩, (fun _ => rfl), (fun h => absurd rfl h)⟩
theorem tok157 : M.TI.Ok Tryz.prog 157 ti157 := ⟨by kernel_rfl, ⟨Tryz.t157, by kernel_rfl, by kernel_rfl, by kernel_rfl, (fun z h => by cases h; exact ⟨_, rfl, by kernel_rfl⟩)⟩, (fun _ => rfl), (fun h => absurd rfl h)⟩
theorem tok158 : M.TI.Ok Tryz.prog 158 ti158 := ⟨by kernel_rfl, ⟨Tryz.t158, by kernel_rfl, by kernel_rfl, by kernel_rfl, (fun z h => by cases h; exact ⟨_, rfl, by kernel_rfl⟩)⟩, (fun _ => rfl), (fun h => absurd rfl h)⟩
theorem tok159 : M.TI.Ok Tryz.prog 159 ti159 := ⟨by kernel_rfl, ⟨Tryz.t159, by kernel_rfl, by kernel_rfl, by kernel_rfl, (fun z h => by cases h; exact ⟨_, rfl, by kernel_rfl⟩)⟩, (fun _ => rfl), (fun h => absurd rfl h)⟩
theorem tok160 : M.TI.Ok Tryz.prog 160 ti160 := ⟨by kernel_rfl, ⟨Tryz.t160, by kernel_rfl, by kernel_rfl, by kernel_rfl, (fun z h => by cases h; exact ⟨_, rfl, by kernel_rfl⟩)⟩, (fun _ => rfl), (fun h => absurd rfl h)⟩
theorem tok161 : M.TI.Ok Tryz.prog 161 ti161 := ⟨by kernel_rfl, ⟨Tryz.t161, by kernel_rfl, by kernel_rfl, by kernel_rfl, (fun z h => by cases h; exact ⟨_, rfl, by kernel_rfl⟩)⟩, (fun _ => rfl), (fun h => absurd rfl h)⟩
theorem tok162 : M.TI.Ok Tryz.prog 162 ti162 := ⟨by kernel_rfl, ⟨Tryz.t162, by kernel_rfl, by kernel_rfl, by kernel_rfl, (fun z h => by cases h; exact ⟨_, rfl, by kernel_rfl⟩)⟩, (fun _ => rfl), (fun h => absurd rfl h)⟩
theorem tok163 : M.TI.Ok Tryz.prog 163 ti163 := ⟨by kernel_rfl, ⟨Tryz.t163, by kernel_rfl, by kernel_rfl, by kernel_rfl, (fun z h => by cases h; exact ⟨_, rfl, by kernel_rfl⟩)⟩, (fun _ => rfl), (fun h => absurd rfl h)⟩
theorem tok164 : M.TI.Ok Tryz.prog 164 ti164 := ⟨by kernel_rfl, ⟨Tryz.t164, by kernel_rfl, by kernel_rfl, by kernel_rfl, (fun z h => by cases h)⟩, (fun _ => rfl), (fun h => absurd rfl h)⟩
theorem tok165 : M.TI.Ok Tryz.prog 165 ti165 := ⟨by kernel_rfl, ⟨Tryz.t165, by kernel_rfl, by kernel_rfl, by kernel_rfl, (fun z h => by cases h; exact ⟨_, rfl, by kernel_rfl⟩)⟩, (fun _ => rfl), (fun h => absurd rfl h)⟩
theorem tok166 : M.TI.Ok Tryz.prog 166 ti166 := ⟨by kernel_rfl, ⟨Tryz.t166, by kernel_rfl, by kernel_rfl, by kernel_rfl, (fun z h => by cases h; exact ⟨_, rfl, by kernel_rfl⟩)⟩, (fun _ => rfl), (fun h => absurd rfl h)⟩
theorem tok167 : M.TI.Ok Tryz.prog 167 ti167 := ⟨by kernel_rfl, ⟨Tryz.t167, by kernel_rfl, by kernel_rfl, by kernel_rfl, (fun z h => by cases h; exact ⟨_, rfl, by kernel_rfl⟩)⟩, (fun h => by cases h), (fun h => absurd rfl h)⟩
theorem tok168 : M.TI.Ok Tryz.prog 168 ti168 := ⟨by kernel_rfl, ⟨Tryz.t168, by kernel_rfl, by kernel_rfl, by kernel_rfl, (fun z h => by cases h; exact ⟨_, rfl, by kernel_rfl⟩)⟩, (fun h => by cases h), (fun h => absurd rfl h)⟩
theorem tok169 : M.TI.Ok Tryz.prog 169 ti169 := ⟨by kernel_rfl, ⟨Tryz.t169, by kernel_rfl, by kernel_rfl, by kernel_rfl, (fun z h => by cases h; exact ⟨_, rfl, by kernel_rfl⟩)⟩, (fun h => by cases h), (fun h => absurd rfl h)⟩
theorem tok170 : M.TI.Ok Tryz.prog 170 ti170 := ⟨by kernel_rfl, ⟨Tryz.t170, by kernel_rfl, by kernel_rfl, by kernel_rfl, (fun z h => by cases h; exact ⟨_, rfl, by kernel_rfl⟩)⟩, (fun h => by cases h), (fun h => absurd rfl h)⟩
theorem tok171 : M.TI.Ok Tryz.prog 171 ti171 := ⟨by kernel_rfl, ⟨Tryz.t171, by kernel_rfl, by kernel_rfl, by kernel_rfl, (fun z h => by cases h; exact ⟨_, rfl, by kernel_rfl⟩)⟩, (fun h => by cases h), (fun h => absurd rfl h)⟩
theorem tok172 : M.TI.Ok Tryz.prog 172 ti172 := ⟨by kernel_rfl, ⟨Tryz.t172, by kernel_rfl, by kernel_rfl, by kernel_rfl, (fun z h => by cases h; exact ⟨_, rfl, by kernel_rfl⟩)⟩, (fun h => by cases h), (fun h => absurd rfl h)⟩
theorem tok173 : M.TI.Ok Tryz.prog 173 ti173 := ⟨by kernel_rfl, ⟨Tryz.t173, by kernel_rfl, by kernel_rfl, by kernel_rfl, (fun z h => by cases h)⟩, (fun _ => rfl), (fun h => absurd rfl h)⟩
theorem tok174 : M.TI.Ok Tryz.prog 174 ti174 := ⟨by kernel_rfl, ⟨Tryz.t174, by kernel_rfl, by kernel_rfl, by kernel_rfl, (fun z h => by cases h; exact ⟨_, rfl, by kernel_rfl⟩)⟩, (fun _ => rfl), (fun h => absurd rfl h)⟩
theorem tok175 : M.TI.Ok Tryz.prog 175 ti175 := ⟨by kernel_rfl, ⟨Tryz.t175, by kernel_rfl, by kernel_rfl, by kernel_rfl, (fun z h => by cases h; exact ⟨_, rfl, by kernel_rfl⟩)⟩, (fun _ => rfl), (fun h => absurd rfl h)⟩
theorem tok176 : M.TI.Ok Tryz.prog 176 ti176 := ⟨by kernel_rfl, ⟨Tryz.t176, by kernel_rfl, by kernel_rfl, by kernel_rfl, (fun z h => by cases h; exact ⟨_, rfl, by kernel_rfl⟩)⟩, (fun _ => rfl), (fun h => absurd rfl h)⟩
theorem tok177 : M.TI.Ok Tryz.prog 177 ti177 := ⟨by kernel_rfl, ⟨Tryz.t177, by kernel_rfl, by kernel_rfl, by kernel_rfl, (fun z h => by cases h; exact ⟨_, rfl, by kernel_rfl⟩)⟩, (fun _ => rfl), (fun h => absurd rfl h)⟩
theorem tok178 : M.TI.Ok Tryz.prog 178 ti178 := ⟨by kernel_rfl, ⟨Tryz.t178, by kernel_rfl, by kernel_rfl, by kernel_rfl, (fun z h => by cases h; exact ⟨_, rfl, by kernel_rfl⟩)⟩, (fun _ => rfl), (fun h => absurd rfl h)⟩
theorem tok179 : M.TI.Ok Tryz.prog 179 ti179 := ⟨by kernel_rfl, ⟨Tryz.t179, by kernel_rfl, by kernel_rfl, by kernel_rfl, (fun z h => by cases h; exact ⟨_, rfl, by kernel_rfl⟩)⟩, (fun _ => rfl), (fun h => absurd rfl h)⟩
theorem tok180 : M.TI.Ok Tryz.prog 180 ti180 := ⟨by kernel_rfl, ⟨Tryz.t180, by kernel_rfl, by kernel_rfl, by kernel_rfl, (fun z h => by cases h; exact ⟨_, rfl, by kernel_rfl⟩)⟩, (fun _ => rfl), (fun h => absurd rfl h)⟩
theorem tok181 : M.TI.Ok Tryz.prog 181 ti181 := ⟨by kernel_rfl, ⟨Tryz.t181, by kernel_rfl, by kernel_rfl, by kernel_rfl, (fun z h => by cases h)⟩, (fun _ => rfl), (fun h => absurd rfl h)⟩
theorem tok182 : M.TI.Ok Tryz.prog 182 ti182 := ⟨by kernel_rfl, ⟨Tryz.t182, by kernel_rfl, by kernel_rfl, by kernel_rfl, (fun z h => by cases h; exact ⟨_, rfl, by kernel_rfl⟩)⟩, (fun _ => rfl), (fun h => absurd rfl h)⟩
theorem tok183 : M.TI.Ok Tryz.prog 183 ti183 := ⟨by kernel_rfl, ⟨Tryz.t183, by kernel_rfl, by kernel_rfl, by kernel_rfl, (fun z h => by cases h; exact ⟨_, rfl, by kernel_rfl⟩)⟩, (fun _ => rfl), (fun h => absurd rfl h)⟩
theorem tok184 : M.TI.Ok Tryz.prog 184 ti184 := ⟨by kernel_rfl, ⟨Tryz.t184, by kernel_rfl, by kernel_rfl, by kernel_rfl, (fun z h => by cases h; exact ⟨_, rfl, by kernel_rfl⟩)⟩, (fun _ => rfl), (fun h => absurd rfl h)⟩
theorem tok185 : M.TI.Ok Tryz.prog 185 ti185 := ⟨by kernel_rfl, ⟨Tryz.t185, by kernel_rfl, by kernel_rfl, by kernel_rfl, (fun z h => by cases h; exact ⟨_, rfl, by kernel_rfl⟩)⟩, (fun _ => rfl), (fun h => absurd rfl h)⟩
theorem tok186 : M.TI.Ok Tryz.prog 186 ti186 := ⟨by kernel_rfl, ⟨Tryz.t186, by kernel_rfl, by kernel_rfl, by kernel_rfl, (fun z h => by cases h; exact ⟨_, rfl, by kernel_rfl⟩)⟩, (fun _ => rfl), (fun h => absurd rfl h)⟩
theorem tok187 : M.TI.Ok Tryz.prog 187 ti187 := ⟨by kernel_rfl, ⟨Tryz.t187, by kernel_rfl, by kernel_rfl, by kernel_rfl, (fun z h => by cases h; exact ⟨_, rfl, by kernel_rfl⟩)⟩, (fun _ => rfl), (fun h => absurd rfl h)⟩
theorem tok188 : M.TI.Ok Tryz.prog 188 ti188 := ⟨by kernel_rfl, ⟨Tryz.t188, by kernel_rfl, by kernel_rfl, by kernel_rfl, (fun z h => by cases h; exact ⟨_, rfl, by kernel_rfl⟩)⟩, (fun _ => rfl), (fun h => absurd rfl h)⟩
theorem tok189 : M.TI.Ok Tryz.prog 189 ti189 := ⟨by kernel_rfl, ⟨Tryz.t189, by kernel_rfl, by kernel_rfl, by kernel_rfl, (fun z h => by cases h; exact ⟨_, rfl, by kernel_rfl⟩)⟩, (fun h => by cases h), (fun h => absurd rfl h)⟩
theorem tok190 : M.TI.Ok Tryz.prog 190 ti190 := ⟨by kernel_rfl, ⟨Tryz.t190, by kernel_rfl, by kernel_rfl, by kernel_rfl, (fun z h => by cases h; exact ⟨_, rfl, by kernel_rfl⟩)⟩, (fun _ => rfl), (fun h => absurd rfl h)⟩
theorem tok191 : M.TI.Ok Tryz.prog 191 ti191 := ⟨by kernel_rfl, ⟨Tryz.t191, by kernel_rfl, by kernel_rfl, by kernel_rfl, (fun z h => by cases h)⟩, (fun _ => rfl), (fun h => absurd rfl h)⟩
theorem tok192 : M.TI.Ok Tryz.prog 192 ti192 := ⟨by kernel_rfl, ⟨Tryz.t192, by kernel_rfl, by kernel_rfl, by kernel_rfl, (fun z h => by cases h; exact ⟨_, rfl, by kernel_rfl⟩)⟩, (fun _ => rfl), (fun h => absurd rfl h)⟩
theorem tok193 : M.TI.Ok Tryz.prog 193 ti193 := ⟨by kernel_rfl, ⟨Tryz.t193, by kernel_rfl, by kernel_rfl, by kernel_rfl, (fun z h => by cases h; exact ⟨_, rfl, by kernel_rfl⟩)⟩, (fun _ => rfl), (fun h => absurd rfl h)⟩
theorem tok194 : M.TI.Ok Tryz.prog 194 ti194 := ⟨by kernel_rfl, ⟨Tryz.t194, by kernel_rfl, by kernel_rfl, by kernel_rfl, (fun z h => by cases h; exact ⟨_, rfl, by kernel_rfl⟩)⟩, (fun _ => rfl), (fun h => absurd rfl h)⟩
theorem tok195 : M.TI.Ok Tryz.prog 195 ti195 := ⟨by kernel_rfl, ⟨Tryz.t195, by kernel_rfl, by kernel_rfl, by kernel_rfl, (fun z h => by cases h)⟩, (fun _ => rfl), (fun h => absurd rfl h)⟩
theorem tok196 : M.TI.Ok Tryz.prog 196 ti196 := ⟨by kernel_rfl, ⟨Tryz.t196, by kernel_rfl, by kernel_rfl, by kernel_rfl, (fun z h => by cases h; exact ⟨_, rfl, by kernel_rfl⟩)⟩, (fun _ => rfl), (fun h => absurd rfl h)⟩
theorem tok197 : M.TI.Ok Tryz.prog 197 ti197 := ⟨by kernel_rfl, ⟨Tryz.t197, by kernel_rfl, by kernel_rfl, by kernel_rfl, (fun z h => by cases h; exact ⟨_, rfl, by kernel_rfl⟩)⟩, (fun _ => rfl), (fun h => absurd rfl h)⟩
theorem tok198 : M.TI.Ok Tryz.prog 198 ti198 := ⟨by kernel_rfl, ⟨Tryz.t198, by kernel_rfl, by kernel_rfl, by kernel_rfl, (fun z h => by cases h; exact ⟨_, rfl, by kernel_rfl⟩)⟩, (fun _ => rfl), (fun h => absurd rfl h)⟩
theorem tok199 : M.TI.Ok Tryz.prog 199 ti199 := ⟨by kernel_rfl, ⟨Tryz.t199, by kernel_rfl, by kernel_rfl, by kernel_rfl, (fun z h => by cases h; exact ⟨_, rfl, by kernel_rfl⟩)⟩, (fun _ => rfl), (fun h => absurd rfl h)⟩
theorem tok200 : M.TI.Ok Tryz.prog 200 ti200 := ⟨by kernel_rfl, ⟨Tryz.t200, by kernel_rfl, by kernel_rfl, by kernel_rfl, (fun z h => by cases h; exact ⟨_, rfl, by kernel_rfl⟩)⟩, (fun _ => rfl), (fun h => absurd rfl h)⟩
theorem tok201 : M.TI.Ok Tryz.prog 201 ti201 := ⟨by kernel_rfl, ⟨Tryz.t201, by kernel_rfl, by kernel_rfl, by kernel_rfl, (fun z h => by cases h)⟩, (fun _ => rfl), (fun h => absurd rfl h)⟩
theorem tok202 : M.TI.Ok Tryz.prog 202 ti202 := ⟨by kernel_rfl, ⟨Tryz.t202, by kernel_rfl, by kernel_rfl, by kernel_rfl, (fun z h => by cases h; exact ⟨_, rfl, by kernel_rfl⟩)⟩, (fun _ => rfl), (fun h => absurd rfl h)⟩
theorem tok203 : M.TI.Ok Tryz.prog 203 ti203 := ⟨by kernel_rfl, ⟨Tryz.t203, by kernel_rfl, by kernel_rfl, by kernel_rfl, (fun z h => by cases h; exact ⟨_, rfl, by kernel_rfl⟩)⟩, (fun _ => rfl), (fun h => absurd rfl h)⟩
theorem tok204 : M.TI.Ok Tryz.prog 204 ti204 := ⟨by kernel_rfl, ⟨Tryz.t204, by kernel_rfl, by kernel_rfl, by kernel_rfl, (fun z h => by cases h; exact ⟨_, rfl, by kernel_rfl⟩)⟩, (fun _ => rfl), (fun h => absurd rfl h)⟩
theorem tok205 : M.TI.Ok Tryz.prog 205 ti205 := ⟨by kernel_rfl, ⟨Tryz.t205, by kernel_rfl, by kernel_rfl, by kernel_rfl, (fun z h => by cases h; exact ⟨_, rfl, by kernel_rfl⟩)⟩, (fun _ => rfl), (fun h => absurd rfl h)⟩
theorem tok206 : M.TI.Ok Tryz.prog 206 ti206 := ⟨by kernel_rfl, ⟨Tryz.t206, by kernel_rfl, by kernel_rfl, by kernel_rfl, (fun z h => by cases h)⟩, (fun _ => rfl), (fun h => absurd rfl h)⟩
theorem tok207 : M.TI.Ok Tryz.prog 207 ti207 := ⟨by kernel_rfl, ⟨Tryz.t207, by kernel_rfl, by kernel_rfl, by kernel_rfl, (fun z h => by cases h; exact ⟨_, rfl, by kernel_rfl⟩)⟩, (fun _ => rfl), (fun h => absurd rfl h)⟩
theorem tok208 : M.TI.Ok Tryz.prog 208 ti208 := ⟨by kernel_rfl, ⟨Tryz.t208, by kernel_rfl, by kernel_rfl, by kernel_rfl, (fun z h => by cases h; exact ⟨_, rfl, by kernel_rfl⟩)⟩, (fun _ => rfl), (fun h => absurd rfl h)⟩
theorem tok209 : M.TI.Ok Tryz.prog 209 ti209 := ⟨by kernel_rfl, ⟨Tryz.t209, by kernel_rfl, by kernel_rfl, by kernel_rfl, (fun z h => by cases h; exact ⟨_, rfl, by kernel_rfl⟩)⟩, (fun h => by cases h), (fun _ => ⟨by kernel_rfl, by kernel_rfl⟩)⟩
theorem tok210 : M.TI.Ok Tryz.prog 210 ti210 := ⟨by kernel_rfl, ⟨Tryz.t210, by kernel_rfl, by kernel_rfl, by kernel_rfl, (fun z h => by cases h; exact ⟨_, rfl, by kernel_rfl⟩)⟩, (fun h => by cases h), (fun _ => ⟨by kernel_rfl, by kernel_rfl⟩)⟩
theorem tok211 : M.TI.Ok Tryz.prog 211 ti211 := ⟨by kernel_rfl, ⟨Tryz.t211, by kernel_rfl, by kernel_rfl, by kernel_rfl, (fun z h => by cases h; exact ⟨_, rfl, by kernel_rfl⟩)⟩, (fun _ => rfl), (fun h => absurd rfl h)⟩
theorem tok212 : M.TI.Ok Tryz.prog 212 ti212 := ⟨by kernel_rfl, ⟨Tryz.t212, by kernel_rfl, by kernel_rfl, by kernel_rfl, (fun z h => by cases h; exact ⟨_, rfl, by kernel_rfl⟩)⟩, (fun _ => rfl), (fun h => absurd rfl h)⟩
theorem tok213 : M.TI.Ok Tryz.prog 213 ti213 := ⟨by kernel_rfl, ⟨Tryz.t213, by kernel_rfl, by kernel_rfl, by kernel_rfl, (fun z h => by cases h; exact ⟨_, rfl, by kernel_rfl⟩)⟩, (fun _ => rfl), (fun h => absurd rfl h)⟩
theorem tok214 : M.TI.Ok Tryz.prog 214 ti214 := ⟨by kernel_rfl, ⟨Tryz.t214, by kernel_rfl, by kernel_rfl, by kernel_rfl, (fun z h => by cases h; exact ⟨_, rfl, by kernel_rfl⟩)⟩, (fun _ => rfl), (fun h => absurd rfl h)⟩
theorem tok215 : M.TI.Ok Tryz.prog 215 ti215 := ⟨by kernel_rfl, ⟨Tryz.t215, by kernel_rfl, by kernel_rfl, by kernel_rfl, (fun z h => by cases h; exact ⟨_, rfl, by kernel_rfl⟩)⟩, (fun _ => rfl), (fun h => absurd rfl h)⟩
theorem tok216 : M.TI.Ok Tryz.prog 216 ti216 := ⟨by kernel_rfl, ⟨Tryz.t216, by kernel_rfl, by kernel_rfl, by kernel_rfl, (fun z h => by cases h; exact ⟨_, rfl, by kernel_rfl⟩)⟩, (fun _ => rfl), (fun h => absurd rfl h)⟩
theorem tok217 : M.TI.Ok Tryz.prog 217 ti217 := ⟨by kernel_rfl, ⟨Tryz.t217, by kernel_rfl, by kernel_rfl, by kernel_rfl, (fun z h => by cases h; exact ⟨_, rfl, by kernel_rfl⟩)⟩, (fun _ => rfl), (fun h => absurd rfl h)⟩
theorem tok218 : M.TI.Ok Tryz.prog 218 ti218 := ⟨by kernel_rfl, ⟨Tryz.t218, by kernel_rfl, by kernel_rfl, by kernel_rfl, (fun z h => by cases h)⟩, (fun _ => rfl), (fun h => absurd rfl h)⟩
theorem tok219 : M.TI.Ok Tryz.prog 219 ti219 := ⟨by kernel_rfl, ⟨Tryz.t219, by kernel_rfl, by kernel_rfl, by kernel_rfl, (fun z h => by cases h; exact ⟨_, rfl, by kernel_rfl⟩)⟩, (fun _ => rfl), (fun h => absurd rfl h)⟩
theorem tok220 : M.TI.Ok Tryz.prog 220 ti220 := ⟨by kernel_rfl, ⟨Tryz.t220, by kernel_rfl, by kernel_rfl, by kernel_rfl, (fun z h => by cases h; exact ⟨_, rfl, by kernel_rfl⟩)⟩, (fun h => by cases h), (fun _ => ⟨by kernel_rfl, by kernel_rfl⟩)⟩
theorem tok221 : M.TI.Ok Tryz.prog 221 ti221 := ⟨by kernel_rfl, ⟨Tryz.t221, by kernel_rfl, by kernel_rfl, by kernel_rfl, (fun z h => by cases h; exact ⟨_, rfl, by kernel_rfl⟩)⟩, (fun h => by cases h), (fun _ => ⟨by kernel_rfl, by kernel_rfl⟩)⟩
theorem tok222 : M.TI.Ok Tryz.prog 222 ti222 := ⟨by kernel_rfl, ⟨Tryz.t222, by kernel_rfl, by kernel_rfl, by kernel_rfl, (fun z h => by cases h; exact ⟨_, rfl, by kernel_rfl⟩)⟩, (fun _ => rfl), (fun h => absurd rfl h)⟩
theorem tok223 : M.TI.Ok Tryz.prog 223 ti223 := ⟨by kernel_rfl, ⟨Tryz.t223, by kernel_rfl, by kernel_rfl, by kernel_rfl, (fun z h => by cases h; exact ⟨_, rfl, by kernel_rfl⟩)⟩, (fun h => by cases h), (fun _ => ⟨by kernel_rfl, by kernel_rfl⟩)⟩
theorem tok224 : M.TI.Ok Tryz.prog 224 ti224 := ⟨by kernel_rfl, ⟨Tryz.t224, by kernel_rfl, by kernel_rfl, by kernel_rfl, (fun z h => by cases h; exact ⟨_, rfl, by kernel_rfl⟩)⟩, (fun h => by cases h), (fun _ => ⟨by kernel_rfl, by kernel_rfl⟩)⟩
theorem tok225 : M.TI.Ok Tryz.prog 225 ti225 := ⟨by kernel_rfl, ⟨Tryz.t225, by kernel_rfl, by kernel_rfl, by kernel_rfl, (fun z h => by cases h; exact ⟨_, rfl, by kernel_rfl⟩)⟩, (fun h => by cases h), (fun _ => ⟨by kernel_rfl, by kernel_rfl⟩)⟩
theorem tok226 : M.TI.Ok Tryz.prog 226 ti226 := ⟨by kernel_rfl, ⟨Tryz.t226, by kernel_rfl, by kernel_rfl, by kernel_rfl, (fun z h => by cases h; exact ⟨_, rfl, by kernel_rfl⟩)⟩, (fun h => by cases h), (fun _ => ⟨by kernel_rfl, by kernel_rfl⟩)⟩
theorem tok227 : M.TI.Ok Tryz.prog 227 ti227 := ⟨by kernel_rfl, ⟨Tryz.t227, by kernel_rfl, by kernel_rfl, by kernel_rfl, (fun z h => by cases h)⟩, (fun _ => rfl), (fun h => absurd rfl h)⟩
theorem tok228 : M.TI.Ok Tryz.prog 228 ti228 := ⟨by kernel_rfl, ⟨Tryz.t228, by kernel_rfl, by kernel_rfl, by kernel_rfl, (fun z h => by cases h; exact ⟨_, rfl, by kernel_rfl⟩)⟩, (fun _ => rfl), (fun h => absurd rfl h)⟩
theorem tok229 : M.TI.Ok Tryz.prog 229 ti229 := ⟨by kernel_rfl, ⟨Tryz.t229, by kernel_rfl, by kernel_rfl, by kernel_rfl, (fun z h => by cases h; exact ⟨_, rfl, by kernel_rfl⟩)⟩, (fun _ => rfl), (fun h => absurd rfl h)⟩
theorem tok230 : M.TI.Ok Tryz.prog 230 ti230 := ⟨by kernel_rfl, ⟨Tryz.t230, by kernel_rfl, by kernel_rfl, by kernel_rfl, (fun z h => by cases h; exact ⟨_, rfl, by kernel_rfl⟩)⟩, (fun _ => rfl), (fun h => absurd rfl h)⟩
theorem tok231 : M.TI.Ok Tryz.prog 231 ti231 := ⟨by kernel_rfl, ⟨Tryz.t231, by kernel_rfl, by kernel_rfl, by kernel_rfl, (fun z h => by cases h; exact ⟨_, rfl, by kernel_rfl⟩)⟩, (fun _ => rfl), (fun h => absurd rfl h)⟩
theorem tok232 : M.TI.Ok Tryz.prog 232 ti232 := ⟨by kernel_rfl, ⟨Tryz.t232, by kernel_rfl, by kernel_rfl, by kernel_rfl, (fun z h => by cases h)⟩, (fun _ => rfl), (fun h => absurd rfl h)⟩
theorem tok233 : M.TI.Ok Tryz.prog 233 ti233 := ⟨by kernel_rfl, ⟨Tryz.t233, by kernel_rfl, by kernel_rfl, by kernel_rfl, (fun z h => by cases h; exact ⟨_, rfl, by kernel_rfl⟩)⟩, (fun _ => rfl), (fun h => absurd rfl h)⟩
theorem tok234 : M.TI.Ok Tryz.prog 234 ti234 := ⟨by kernel_rfl, ⟨Tryz.t234, by kernel_rfl, by kernel_rfl, by kernel_rfl, (fun z h => by cases h; exact ⟨_, rfl, by kernel_rfl⟩)⟩, (fun _ => rfl), (fun h => absurd rfl h)⟩
theorem tok235 : M.TI.Ok Tryz.prog 235 ti235 := ⟨by kernel_rfl, ⟨Tryz.t235, by kernel_rfl, by kernel_rfl, by kernel_rfl, (fun z h => by cases h; exact ⟨_, rfl, by kernel_rfl⟩)⟩, (fun _ => rfl), (fun h => absurd rfl h)⟩
theorem tok236 : M.TI.Ok Tryz.prog 236 ti236 := ⟨by kernel_rfl, ⟨Tryz.t236, by kernel_rfl, by kernel_rfl, by kernel_rfl, (fun z h => by cases h; exact ⟨_, rfl, by kernel_rfl⟩)⟩, (fun _ => rfl), (fun h => absurd rfl h)⟩
theorem tok237 : M.TI.Ok Tryz.prog 237 ti237 := ⟨by kernel_rfl, ⟨Tryz.t237, by kernel_rfl, by kernel_rfl, by kernel_rfl, (fun z h => by cases h; exact ⟨_, rfl, by kernel_rfl⟩)⟩, (fun _ => rfl), (fun h => absurd rfl h)⟩
theorem tok238 : M.TI.Ok Tryz.prog 238 ti238 := ⟨by kernel_rfl, ⟨Tryz.t238, by kernel_rfl, by kernel_rfl, by kernel_rfl, (fun z h => by cases h; exact ⟨_, rfl, by kernel_rfl⟩)⟩, (fun _ => rfl), (fun h => absurd rfl h)⟩
theorem tok239 : M.TI.Ok Tryz.prog 239 ti239 := ⟨by kernel_rfl, ⟨Tryz.t239, by kernel_rfl, by kernel_rfl, by kernel_rfl, (fun z h => by cases h; exact ⟨_, rfl, by kernel_rfl⟩)⟩, (fun _ => rfl), (fun h => absurd rfl h)⟩
theorem tok240 : M.TI.Ok Tryz.prog 240 ti240 := ⟨by kernel_rfl, ⟨Tryz.t240, by kernel_rfl, by kernel_rfl, by kernel_rfl, (fun z h => by cases h; exact ⟨_, rfl, by kernel_rfl⟩)⟩, (fun _ => rfl), (fun h => absurd rfl h)⟩
theorem tok241 : M.TI.Ok Tryz.prog 241 ti241 := ⟨by kernel_rfl, ⟨Tryz.t241, by kernel_rfl, by kernel_rfl, by kernel_rfl, (fun z h => by cases h; exact ⟨_, rfl, by kernel_rfl⟩)⟩, (fun _ => rfl), (fun h => absurd rfl h)⟩
theorem tok242 : M.TI.Ok Tryz.prog 242 ti242 := ⟨by kernel_rfl, ⟨Tryz.t242, by kernel_rfl, by kernel_rfl, by kernel_rfl, (fun z h => by cases h; exact ⟨_, rfl, by kernel_rfl⟩)⟩, (fun _ => rfl), (fun h => absurd rfl h)⟩
theorem tok243 : M.TI.Ok Tryz.prog 243 ti243 := ⟨by kernel_rfl, ⟨Tryz.t243, by kernel_rfl, by kernel_rfl, by kernel_rfl, (fun z h => by cases h)⟩, (fun _ => rfl), (fun h => absurd rfl h)⟩
theorem tok244 : M.TI.Ok Tryz.prog 244 ti244 := ⟨by kernel_rfl, ⟨Tryz.t244, by kernel_rfl, by kernel_rfl, by kernel_rfl, (fun z h => by cases h; exact ⟨_, rfl, by kernel_rfl⟩)⟩, (fun _ => rfl), (fun h => absurd rfl h)⟩
theorem tok245 : M.TI.Ok Tryz.prog 245 ti245 := ⟨by kernel_rfl, ⟨Tryz.t245, by kernel_rfl, by kernel_rfl, by kernel_rfl, (fun z h => by cases h; exact ⟨_, rfl, by kernel_rfl⟩)⟩, (fun _ => rfl), (fun h => absurd rfl h)⟩
theorem tok246 : M.TI.Ok Tryz.prog 246 ti246 := ⟨by kernel_rfl, ⟨Tryz.t246, by kernel_rfl, by kernel_rfl, by kernel_rfl, (fun z h => by cases h; exact ⟨_, rfl, by kernel_rfl⟩)⟩, (fun _ => rfl), (fun h => absurd rfl h)⟩
theorem tok247 : M.TI.Ok Tryz.prog 247 ti247 := ⟨by kernel_rfl, ⟨Tryz.t247, by kernel_rfl, by kernel_rfl, by kernel_rfl, (fun z h => by cases h; exact ⟨_, rfl, by kernel_rfl⟩)⟩, (fun h => by cases h), (fun h => absurd rfl h)⟩
theorem tok248 : M.TI.Ok Tryz.prog 248 ti248 := ⟨by kernel_rfl, ⟨Tryz.t248, by kernel_rfl, by kernel_rfl, by kernel_rfl, (fun z h => by cases h; exact ⟨_, rfl, by kernel_rfl⟩)⟩, (fun h => by cases h), (fun h => absurd rfl h)⟩
theorem tok249 : M.TI.Ok Tryz.prog 249 ti249 := ⟨by kernel_rfl, ⟨Tryz.t249, by kernel_rfl, by kernel_rfl, by kernel_rfl, (fun z h => by cases h)⟩, (fun _ => rfl), (fun h => absurd rfl h)⟩
theorem tok250 : M.TI.Ok Tryz.prog 250 ti250 := ⟨by kernel_rfl, ⟨Tryz.t250, by kernel_rfl, by kernel_rfl, by kernel_rfl, (fun z h => by cases h; exact ⟨_, rfl, by kernel_rfl⟩)⟩, (fun _ => rfl), (fun h => absurd rfl h)⟩
theorem tok251 : M.TI.Ok Tryz.prog 251 ti251 := ⟨by kernel_rfl, ⟨Tryz.t251, by kernel_rfl, by kernel_rfl, by kernel_rfl, (fun z h => by cases h; exact ⟨_, rfl, by kernel_rfl⟩)⟩, (fun _ => rfl), (fun h => absurd rfl h)⟩
theorem tok252 : M.TI.Ok Tryz.prog 252 ti252 := ⟨by kernel_rfl, ⟨Tryz.t252, by kernel_rfl, by kernel_rfl, by kernel_rfl, (fun z h => by cases h; exact ⟨_, rfl, by kernel_rfl⟩)⟩, (fun _ => rfl), (fun h => absurd rfl h)⟩
theorem tok253 : M.TI.Ok Tryz.prog 253 ti253 := ⟨by kernel_rfl, ⟨Tryz.t253, by kernel_rfl, by kernel_rfl, by kernel_rfl, (fun z h => by cases h; exact ⟨_, rfl, by kernel_rfl⟩)⟩, (fun _ => rfl), (fun h => absurd rfl h)⟩
theorem tok254 : M.TI.Ok Tryz.prog 254 ti254 := ⟨by kernel_rfl, ⟨Tryz.t254, by kernel_rfl, by kernel_rfl, by kernel_rfl, (fun z h => by cases h; exact ⟨_, rfl, by kernel_rfl⟩)⟩, (fun _ => rfl), (fun h => absurd rfl h)⟩
theorem tok255 : M.TI.Ok Tryz.prog 255 ti255 := ⟨by kernel_rfl, ⟨Tryz.t255, by kernel_rfl, by kernel_rfl, by kernel_rfl, (fun z h => by cases h)⟩, (fun _ => rfl), (fun h => absurd rfl h)⟩
theorem tok256 : M.TI.Ok Tryz.prog 256 ti256 := ⟨by kernel_rfl, ⟨Tryz.t256, by kernel_rfl, by kernel_rfl, by kernel_rfl, (fun z h => by cases h; exact ⟨_, rfl, by kernel_rfl⟩)⟩, (fun _ => rfl), (fun h => absurd rfl h)⟩
theorem tok257 : M.TI.Ok Tryz.prog 257 ti257 := ⟨by kernel_rfl, ⟨Tryz.t257, by kernel_rfl, by kernel_rfl, by kernel_rfl, (fun z h => by cases h; exact ⟨_, rfl, by kernel_rfl⟩)⟩, (fun _ => rfl), (fun h => absurd rfl h)⟩
theorem tok258 : M.TI.Ok Tryz.prog 258 ti258 := ⟨by kernel_rfl, ⟨Tryz.t258, by kernel_rfl, by kernel_rfl, by kernel_rfl, (fun z h => by cases h)⟩, (fun _ => rfl), (fun h => absurd rfl h)⟩
theorem tok259 : M.TI.Ok Tryz.prog 259 ti259 := ⟨by kernel_rfl, ⟨Tryz.t259, by kernel_rfl, by kernel_rfl, by kernel_rfl, (fun z h => by cases h; exact ⟨_, rfl, by kernel_rfl⟩)⟩, (fun _ => rfl), (fun h => absurd rfl h)⟩
theorem tok260 : M.TI.Ok Tryz.prog 260 ti260 := ⟨by kernel_rfl, ⟨Tryz.t260, by kernel_rfl, by kernel_rfl, by kernel_rfl, (fun z h => by cases h; exact ⟨_, rfl, by kernel_rfl⟩)⟩, (fun h => by cases h), (fun _ => ⟨by kernel_rfl, by kernel_rfl⟩)⟩
theorem tok261 : M.TI.Ok Tryz.prog 261 ti261 := ⟨by kernel_rfl, ⟨Tryz.t261, by kernel_rfl, by kernel_rfl, by kernel_rfl, (fun z h => by cases h; exact ⟨_, rfl, by kernel_rfl⟩)⟩, (fun h => by cases h), (fun _ => ⟨by kernel_rfl, by kernel_rfl⟩)⟩
theorem tok262 : M.TI.Ok Tryz.prog 262 ti262 := ⟨by kernel_rfl, ⟨Tryz.t262, by kernel_rfl, by kernel_rfl, by kernel_rfl, (fun z h => by cases h; exact ⟨_, rfl, by kernel_rfl⟩)⟩, (fun _ => rfl), (fun h => absurd rfl h)⟩
theorem tok263 : M.TI.Ok Tryz.prog 263 ti263 := ⟨by kernel_rfl, ⟨Tryz.t263, by kernel_rfl, by kernel_rfl, by kernel_rfl, (fun z h => by cases h; exact ⟨_, rfl, by kernel_rfl⟩)⟩, (fun _ => rfl), (fun h => absurd rfl h)⟩
theorem tok264 : M.TI.Ok Tryz.prog 264 ti264 := ⟨by kernel_rfl, ⟨Tryz.t264, by kernel_rfl, by kernel_rfl, by kernel_rfl, (fun z h => by cases h; exact ⟨_, rfl, by kernel_rfl⟩)⟩, (fun _ => rfl), (fun h => absurd rfl h)⟩
theorem tok265 : M.TI.Ok Tryz.prog 265 ti265 := ⟨by kernel_rfl, ⟨Tryz.t265, by kernel_rfl, by kernel_rfl, by kernel_rfl, (fun z h => by cases h; exact ⟨_, rfl, by kernel_rfl⟩)⟩, (fun _ => rfl), (fun h => absurd rfl h)⟩
theorem tok266 : M.TI.Ok Tryz.prog 266 ti266 := ⟨by kernel_rfl, ⟨Tryz.t266, by kernel_rfl, by kernel_rfl, by kernel_rfl, (fun z h => by cases h; exact ⟨_, rfl, by kernel_rfl⟩)⟩, (fun _ => rfl), (fun h => absurd rfl h)⟩
theorem tok267 : M.TI.Ok Tryz.prog 267 ti267 := ⟨by kernel_rfl, ⟨Tryz.t267, by kernel_rfl, by kernel_rfl, by kernel_rfl, (fun z h => by cases h; exact ⟨_, rfl, by kernel_rfl⟩)⟩, (fun _ => rfl), (fun h => absurd rfl h)⟩
theorem tok268 : M.TI.Ok Tryz.prog 268 ti268 := ⟨by kernel_rfl, ⟨Tryz.t268, by kernel_rfl, by kernel_rfl, by kernel_rfl, (fun z h => by cases h; exact ⟨_, rfl, by kernel_rfl⟩)⟩, (fun _ => rfl), (fun h => absurd rfl h)⟩
theorem tok269 : M.TI.Ok Tryz.prog 269 ti269 := ⟨by kernel_rfl, ⟨Tryz.t269, by kernel_rfl, by kernel_rfl, by kernel_rfl, (fun z h => by cases h; exact ⟨_, rfl, by kernel_rfl⟩)⟩, (fun _ => rfl), (fun h => absurd rfl h)⟩
theorem tok270 : M.TI.Ok Tryz.prog 270 ti270 := ⟨by kernel_rfl, ⟨Tryz.t270, by kernel_rfl, by kernel_rfl, by kernel_rfl, (fun z h => by cases h; exact ⟨_, rfl, by kernel_rfl⟩)⟩, (fun _ => rfl), (fun h => absurd rfl h)⟩
theorem tok271 : M.TI.Ok Tryz.prog 271 ti271 := ⟨by kernel_rfl, ⟨Tryz.t271, by kernel_rfl, by kernel_rfl, by kernel_rfl, (fun z h => by cases h; exact ⟨_, rfl, by kernel_rfl⟩)⟩, (fun _ => rfl), (fun h => absurd rfl h)⟩
theorem tok272 : M.TI.Ok Tryz.prog 272 ti272 := ⟨by kernel_rfl, ⟨Tryz.t272, by kernel_rfl, by kernel_rfl, by kernel_rfl, (fun z h => by cases h; exact ⟨_, rfl, by kernel_rfl⟩)⟩, (fun _ => rfl), (fun h => absurd rfl h)⟩
theorem tok273 : M.TI.Ok Tryz.prog 273 ti273 := ⟨by kernel_rfl, ⟨Tryz.t273, by kernel_rfl, by kernel_rfl, by kernel_rfl, (fun z h => by cases h; exact ⟨_, rfl, by kernel_rfl⟩)⟩, (fun _ => rfl), (fun h => absurd rfl h)⟩
theorem tok274 : M.TI.Ok Tryz.prog 274 ti274 := ⟨by kernel_rfl, ⟨Tryz.t274, by kernel_rfl, by kernel_rfl, by kernel_rfl, (fun z h => by cases h; exact ⟨_, rfl, by kernel_rfl⟩)⟩, (fun _ => rfl), (fun h => absurd rfl h)⟩
theorem tok275 : M.TI.Ok Tryz.prog 275 ti275 := ⟨by kernel_rfl, ⟨Tryz.t275, by kernel_rfl, by kernel_rfl, by kernel_rfl, (fun z h => by cases h; exact ⟨_, rfl, by kernel_rfl⟩)⟩, (fun _ => rfl), (fun h => absurd rfl h)⟩
theorem tok276 : M.TI.Ok Tryz.prog 276 ti276 := ⟨by kernel_rfl, ⟨Tryz.t276, by kernel_rfl, by kernel_rfl, by kernel_rfl, (fun z h => by cases h; exact ⟨_, rfl, by kernel_rfl⟩)⟩, (fun _ => rfl), (fun h => absurd rfl h)⟩
theorem tok277 : M.TI.Ok Tryz.prog 277 ti277 := ⟨by kernel_rfl, ⟨Tryz.t277, by kernel_rfl, by kernel_rfl, by kernel_rfl, (fun z h => by cases h; exact ⟨_, rfl, by kernel_rfl⟩)⟩, (fun _ => rfl), (fun h => absurd rfl h)⟩
theorem tok278 : M.TI.Ok Tryz.prog 278 ti278 := ⟨by kernel_rfl, ⟨Tryz.t278, by kernel_rfl, by kernel_rfl, by kernel_rfl, (fun z h => by cases h)⟩, (fun _ => rfl), (fun h => absurd rfl h)⟩
theorem tok279 : M.TI.Ok Tryz.prog 279 ti279 := ⟨by kernel_rfl, ⟨Tryz.t279, by kernel_rfl, by kernel_rfl, by kernel_rfl, (fun z h => by cases h; exact ⟨_, rfl, by kernel_rfl⟩)⟩, (fun _ => rfl), (fun h => absurd rfl h)⟩
theorem tok280 : M.TI.Ok Tryz.prog 280 ti280 := ⟨by kernel_rfl, ⟨Tryz.t280, by kernel_rfl, by kernel_rfl, by kernel_rfl, (fun z h => by cases h; exact ⟨_, rfl, by kernel_rfl⟩)⟩, (fun _ => rfl), (fun h => absurd rfl h)⟩
theorem tok281 : M.TI.Ok Tryz.prog 281 ti281 := ⟨by kernel_rfl, ⟨Tryz.t281, by kernel_rfl, by kernel_rfl, by kernel_rfl, (fun z h => by cases h)⟩, (fun _ => rfl), (fun h => absurd rfl h)⟩
theorem tok282 : M.TI.Ok Tryz.prog 282 ti282 := ⟨by kernel_rfl, ⟨Tryz.t282, by kernel_rfl, by kernel_rfl, by kernel_rfl, (fun z h => by cases h; exact ⟨_, rfl, by kernel_rfl⟩)⟩, (fun _ => rfl), (fun h => absurd rfl h)⟩
theorem tok283 : M.TI.Ok Tryz.prog 283 ti283 := ⟨by kernel_rfl, ⟨Tryz.t283, by kernel_rfl, by kernel_rfl, by kernel_rfl, (fun z h => by cases h)⟩, (fun _ => rfl), (fun h => absurd rfl h)⟩
theorem tok284 : M.TI.Ok Tryz.prog 284 ti284 := ⟨by kernel_rfl, ⟨Tryz.t284, by kernel_rfl, by kernel_rfl, by kernel_rfl, (fun z h => by cases h; exact ⟨_, rfl, by kernel_rfl⟩)⟩, (fun _ => rfl), (fun h => absurd rfl h)⟩
theorem tok285 : M.TI.Ok Tryz.prog 285 ti285 := ⟨by kernel_rfl, ⟨Tryz.t285, by kernel_rfl, by kernel_rfl, by kernel_rfl, (fun z h => by cases h)⟩, (fun _ => rfl), (fun h => absurd rfl h)⟩
theorem tok286 : M.TI.Ok Tryz.prog 286 ti286 := ⟨by kernel_rfl, ⟨Tryz.t286, by kernel_rfl, by kernel_rfl, by kernel_rfl, (fun z h => by cases h; exact ⟨_, rfl, by kernel_rfl⟩)⟩, (fun _ => rfl), (fun h => absurd rfl h)⟩
theorem tok287 : M.TI.Ok Tryz.prog 287 ti287 := ⟨by kernel_rfl, ⟨Tryz.t287, by kernel_rfl, by kernel_rfl, by kernel_rfl, (fun z h => by cases h; exact ⟨_, rfl, by kernel_rfl⟩)⟩, (fun _ => rfl), (fun h => absurd rfl h)⟩
theorem tok288 : M.TI.Ok Tryz.prog 288 ti288 := ⟨by kernel_rfl, ⟨Tryz.t288, by kernel_rfl, by kernel_rfl, by kernel_rfl, (fun z h => by cases h; exact ⟨_, rfl, by kernel_rfl⟩)⟩, (fun _ => rfl), (fun h => absurd rfl h)⟩
theorem tok289 : M.TI.Ok Tryz.prog 289 ti289 := ⟨by kernel_rfl, ⟨Tryz.t289, by kernel_rfl, by kernel_rfl, by kernel_rfl, (fun z h => by cases h; exact ⟨_, rfl, by kernel_rfl⟩)⟩, (fun _ => rfl), (fun h => absurd rfl h)⟩
theorem tok290 : M.TI.Ok Tryz.prog 290 ti290 := ⟨by kernel_rfl, ⟨Tryz.t290, by kernel_rfl, by kernel_rfl, by kernel_rfl, (fun z h => by cases h; exact ⟨_, rfl, by kernel_rfl⟩)⟩, (fun _ => rfl), (fun h => absurd rfl h)⟩
theorem tok291 : M.TI.Ok Tryz.prog 291 ti291 := ⟨by kernel_rfl, ⟨Tryz.t291, by kernel_rfl, by kernel_rfl, by kernel_rfl, (fun z h => by cases h; exact ⟨_, rfl, by kernel_rfl⟩)⟩, (fun _ => rfl), (fun h => absurd rfl h)⟩
theorem tok292 : M.TI.Ok Tryz.prog 292 ti292 := ⟨by kernel_rfl, ⟨Tryz.t292, by kernel_rfl, by kernel_rfl, by kernel_rfl, (fun z h => by cases h; exact ⟨_, rfl, by kernel_rfl⟩)⟩, (fun _ => rfl), (fun h => absurd rfl h)⟩
theorem tok293 : M.TI.Ok Tryz.prog 293 ti293 := ⟨by kernel_rfl, ⟨Tryz.t293, by kernel_rfl, by kernel_rfl, by kernel_rfl, (fun z h => by cases h; exact ⟨_, rfl, by kernel_rfl⟩)⟩, (fun _ => rfl), (fun h => absurd rfl h)⟩
theorem tok294 : M.TI.Ok Tryz.prog 294 ti294 := ⟨by kernel_rfl, ⟨Tryz.t294, by kernel_rfl, by kernel_rfl, by kernel_rfl, (fun z h => by cases h; exact ⟨_, rfl, by kernel_rfl⟩)⟩, (fun _ => rfl), (fun h => absurd rfl h)⟩
theorem tok295 : M.TI.Ok Tryz.prog 295 ti295 := ⟨by kernel_rfl, ⟨Tryz.t295, by kernel_rfl, by kernel_rfl, by kernel_rfl, (fun z h => by cases h; exact ⟨_, rfl, by kernel_rfl⟩)⟩, (fun _ => rfl), (fun h => absurd rfl h)⟩
theorem tok296 : M.TI.Ok Tryz.prog 296 ti296 := ⟨by kernel_rfl, ⟨Tryz.t296, by kernel_rfl, by kernel_rfl, by kernel_rfl, (fun z h => by cases h; exact ⟨_, rfl, by kernel_rfl⟩)⟩, (fun _ => rfl), (fun h => absurd rfl h)⟩
theorem tok297 : M.TI.Ok Tryz.prog 297 ti297 := ⟨by kernel_rfl, ⟨Tryz.t297, by kernel_rfl, by kernel_rfl, by kernel_rfl, (fun z h => by cases h; exact ⟨_, rfl, by kernel_rfl⟩)⟩, (fun _ => rfl), (fun h => absurd rfl h)⟩
theorem tok298 : M.TI.Ok Tryz.prog 298 ti298 := ⟨by kernel_rfl, ⟨Tryz.t298, by kernel_rfl, by kernel_rfl, by kernel_rfl, (fun z h => by cases h; exact ⟨_, rfl, by kernel_rfl⟩)⟩, (fun h => by cases h), (fun h => absurd rfl h)⟩
theorem tok299 : M.TI.Ok Tryz.prog 299 ti299 := ⟨by kernel_rfl, ⟨Tryz.t299, by kernel_rfl, by kernel_rfl, by kernel_rfl, (fun z h => by cases h; exact ⟨_, rfl, by kernel_rfl⟩)⟩, (fun h => by cases h), (fun h => absurd rfl h)⟩
theorem tok300 : M.TI.Ok Tryz.prog 300 ti300 := ⟨by kernel_rfl, ⟨Tryz.t300, by kernel_rfl, by kernel_rfl, by kernel_rfl, (fun z h => by cases h; exact ⟨_, rfl, by kernel_rfl⟩)⟩, (fun _ => rfl), (fun h => absurd rfl h)⟩
theorem tok301 : M.TI.Ok Tryz.prog 301 ti301 := ⟨by kernel_rfl, ⟨Tryz.t301, by kernel_rfl, by kernel_rfl, by kernel_rfl, (fun z h => by cases h; exact ⟨_, rfl, by kernel_rfl⟩)⟩, (fun _ => rfl), (fun h => absurd rfl h)⟩
theorem tok302 : M.TI.Ok Tryz.prog 302 ti302 := ⟨by kernel_rfl, ⟨Tryz.t302, by kernel_rfl, by kernel_rfl, by kernel_rfl, (fun z h => by cases h; exact ⟨_, rfl, by kernel_rfl⟩)⟩, (fun _ => rfl), (fun h => absurd rfl h)⟩
theorem tok303 : M.TI.Ok Tryz.prog 303 ti303 := ⟨by kernel_rfl, ⟨Tryz.t303, by kernel_rfl, by kernel_rfl, by kernel_rfl, (fun z h => by cases h; exact ⟨_, rfl, by kernel_rfl⟩)⟩, (fun _ => rfl), (fun h => absurd rfl h)⟩
theorem tok304 : M.TI.Ok Tryz.prog 304 ti304 := ⟨by kernel_rfl, ⟨Tryz.t304, by kernel_rfl, by kernel_rfl, by kernel_rfl, (fun z h => by cases h; exact ⟨_, rfl, by kernel_rfl⟩)⟩, (fun _ => rfl), (fun h => absurd rfl h)⟩
theorem tok305 : M.TI.Ok Tryz.prog 305 ti305 := ⟨by kernel_rfl, ⟨Tryz.t305, by kernel_rfl, by kernel_rfl, by kernel_rfl, (fun z h => by cases h; exact ⟨_, rfl, by kernel_rfl⟩)⟩, (fun _ => rfl), (fun h => absurd rfl h)⟩
theorem tok306 : M.TI.Ok Tryz.prog 306 ti306 := ⟨by kernel_rfl, ⟨Tryz.t306, by kernel_rfl, by kernel_rfl, by kernel_rfl, (fun z h => by cases h; exact ⟨_, rfl, by kernel_rfl⟩)⟩, (fun _ => rfl), (fun h => absurd rfl h)⟩
theorem tok307 : M.TI.Ok Tryz.prog 307 ti307 := ⟨by kernel_rfl, ⟨Tryz.t307, by kernel_rfl, by kernel_rfl, by kernel_rfl, (fun z h => by cases h; exact ⟨_, rfl, by kernel_rfl⟩)⟩, (fun _ => rfl), (fun h => absurd rfl h)⟩
theorem tok308 : M.TI.Ok Tryz.prog 308 ti308 := ⟨by kernel_rfl, ⟨Tryz.t308, by kernel_rfl, by kernel_rfl, by kernel_rfl, (fun z h => by cases h; exact ⟨_, rfl, by kernel_rfl⟩)⟩, (fun _ => rfl), (fun h => absurd rfl h)⟩
theorem tok309 : M.TI.Ok Tryz.prog 309 ti309 := ⟨by kernel_rfl, ⟨Tryz.t309, by kernel_rfl, by kernel_rfl, by kernel_rfl, (fun z h => by cases h)⟩, (fun _ => rfl), (fun h => absurd rfl h)⟩
theorem tok310 : M.TI.Ok Tryz.prog 310 ti310 := ⟨by kernel_rfl, ⟨Tryz.t310, by kernel_rfl, by kernel_rfl, by kernel_rfl, (fun z h => by cases h; exact ⟨_, rfl, by kernel_rfl⟩)⟩, (fun _ => rfl), (fun h => absurd rfl h)⟩
theorem tok311 : M.TI.Ok Tryz.prog 311 ti311 := ⟨by kernel_rfl, ⟨Tryz.t311, by kernel_rfl, by kernel_rfl, by kernel_rfl, (fun z h => by cases h)⟩, (fun _ => rfl), (fun h => absurd rfl h)⟩
theorem tok312 : M.TI.Ok Tryz.prog 312 ti312 := ⟨by kernel_rfl, ⟨Tryz.t312, by kernel_rfl, by kernel_rfl, by kernel_rfl, (fun z h => by cases h; exact ⟨_, rfl, by kernel_rfl⟩)⟩, (fun _ => rfl), (fun h => absurd rfl h)⟩
theorem tok313 : M.TI.Ok Tryz.prog 313 ti313 := ⟨by kernel_rfl, ⟨Tryz.t313, by kernel_rfl, by kernel_rfl, by kernel_rfl, (fun z h => by cases h; exact ⟨_, rfl, by kernel_rfl⟩)⟩, (fun _ => rfl), (fun h => absurd rfl h)⟩
theorem tok314 : M.TI.Ok Tryz.prog 314 ti314 := ⟨by kernel_rfl, ⟨Tryz.t314, by kernel_rfl, by kernel_rfl, by kernel_rfl, (fun z h => by cases h; exact ⟨_, rfl, by kernel_rfl⟩)⟩, (fun _ => rfl), (fun h => absurd rfl h)⟩
theorem tok315 : M.TI.Ok Tryz.prog 315 ti315 := ⟨by kernel_rfl, ⟨Tryz.t315, by kernel_rfl, by kernel_rfl, by kernel_rfl, (fun z h => by cases h; exact ⟨_, rfl, by kernel_rfl⟩)⟩, (fun _ => rfl), (fun h => absurd rfl h)⟩
theorem tok316 : M.TI.Ok Tryz.prog 316 ti316 := ⟨by kernel_rfl, ⟨Tryz.t316, by kernel_rfl, by kernel_rfl, by kernel_rfl, (fun z h => by cases h; exact ⟨_, rfl, by kernel_rfl⟩)⟩, (fun h => by cases h), (fun h => absurd rfl h)⟩
theorem tok317 : M.TI.Ok Tryz.prog 317 ti317 := ⟨by kernel_rfl, ⟨Tryz.t317, by kernel_rfl, by kernel_rfl, by kernel_rfl, (fun z h => by cases h; exact ⟨_, rfl, by kernel_rfl⟩)⟩, (fun h => by cases h), (fun h => absurd rfl h)⟩
theorem tok318 : M.TI.Ok Tryz.prog 318 ti318 := ⟨by kernel_rfl, ⟨Tryz.t318, by kernel_rfl, by kernel_rfl, by kernel_rfl, (fun z h => by cases h; exact ⟨_, rfl, by kernel_rfl⟩)⟩, (fun _ => rfl), (fun h => absurd rfl h)⟩
theorem tok319 : M.TI.Ok Tryz.prog 319 ti319 := ⟨by kernel_rfl, ⟨Tryz.t319, by kernel_rfl, by kernel_rfl, by kernel_rfl, (fun z h => by cases h; exact ⟨_, rfl, by kernel_rfl⟩)⟩, (fun _ => rfl), (fun h => absurd rfl h)⟩
theorem tok320 : M.TI.Ok Tryz.prog 320 ti320 := ⟨by kernel_rfl, ⟨Tryz.t320, by kernel_rfl, by kernel_rfl, by kernel_rfl, (fun z h => by cases h; exact ⟨_, rfl, by kernel_rfl⟩)⟩, (fun _ => rfl), (fun h => absurd rfl h)⟩
theorem tok321 : M.TI.Ok Tryz.prog 321 ti321 := ⟨by kernel_rfl, ⟨Tryz.t321, by kernel_rfl, by kernel_rfl, by kernel_rfl, (fun z h => by cases h; exact ⟨_, rfl, by kernel_rfl⟩)⟩, (fun _ => rfl), (fun h => absurd rfl h)⟩
theorem tok322 : M.TI.Ok Tryz.prog 322 ti322 := ⟨by kernel_rfl, ⟨Tryz.t322, by kernel_rfl, by kernel_rfl, by kernel_rfl, (fun z h => by cases h; exact ⟨_, rfl, by kernel_rfl⟩)⟩, (fun _ => rfl), (fun h => absurd rfl h)⟩
theorem tok323 : M.TI.Ok Tryz.prog 323 ti323 := ⟨by kernel_rfl, ⟨Tryz.t323, by kernel_rfl, by kernel_rfl, by kernel_rfl, (fun z h => by cases h; exact ⟨_, rfl, by kernel_rfl⟩)⟩, (fun _ => rfl), (fun h => absurd rfl h)⟩
theorem tok324 : M.TI.Ok Tryz.prog 324 ti324 := ⟨by kernel_rfl, ⟨Tryz.t324, by kernel_rfl, by kernel_rfl, by kernel_rfl, (fun z h => by cases h; exact ⟨_, rfl, by kernel_rfl⟩)⟩, (fun _ => rfl), (fun h => absurd rfl h)⟩
theorem tok325 : M.TI.Ok Tryz.prog 325 ti325 := ⟨by kernel_rfl, ⟨Tryz.t325, by kernel_rfl, by kernel_rfl, by kernel_rfl, (fun z h => by cases h; exact ⟨_, rfl, by kernel_rfl⟩)⟩, (fun _ => rfl), (fun h => absurd rfl h)⟩
theorem tok326 : M.TI.Ok Tryz.prog 326 ti326 := ⟨by kernel_rfl, ⟨Tryz.t326, by kernel_rfl, by kernel_rfl, by kernel_rfl, (fun z h => by cases h; exact ⟨_, rfl, by kernel_rfl⟩)⟩, (fun _ => rfl), (fun h => absurd rfl h)⟩
theorem tok327 : M.TI.Ok Tryz.prog 327 ti327 := ⟨by kernel_rfl, ⟨Tryz.t327, by kernel_rfl, by kernel_rfl, by kernel_rfl, (fun z h => by cases h; exact ⟨_, rfl, by kernel_rfl⟩)⟩, (fun _ => rfl), (fun h => absurd rfl h)⟩
theorem tok328 : M.TI.Ok Tryz.prog 328 ti328 := ⟨by kernel_rfl, ⟨Tryz.t328, by kernel_rfl, by kernel_rfl, by kernel_rfl, (fun z h => by cases h; exact ⟨_, rfl, by kernel_rfl⟩)⟩, (fun _ => rfl), (fun h => absurd rfl h)⟩
theorem tok329 : M.TI.Ok Tryz.prog 329 ti329 := ⟨by kernel_rfl, ⟨Tryz.t329, by kernel_rfl, by kernel_rfl, by kernel_rfl, (fun z h => by cases h; exact ⟨_, rfl, by kernel_rfl⟩)⟩, (fun _ => rfl), (fun h => absurd rfl h)⟩
theorem tok330 : M.TI.Ok Tryz.prog 330 ti330 := ⟨by kernel_rfl, ⟨Tryz.t330, by kernel_rfl, by kernel_rfl, by kernel_rfl, (fun z h => by cases h; exact ⟨_, rfl, by kernel_rfl⟩)⟩, (fun _ => rfl), (fun h => absurd rfl h)⟩
theorem tok331 : M.TI.Ok Tryz.prog 331 ti331 := ⟨by kernel_rfl, ⟨Tryz.t331, by kernel_rfl, by kernel_rfl, by kernel_rfl, (fun z h => by cases h; exact ⟨_, rfl, by kernel_rfl⟩)⟩, (fun _ => rfl), (fun h => absurd rfl h)⟩
theorem tok332 : M.TI.Ok Tryz.prog 332 ti332 := ⟨by kernel_rfl, ⟨Tryz.t332, by kernel_rfl, by kernel_rfl, by kernel_rfl, (fun z h => by cases h; exact ⟨_, rfl, by kernel_rfl⟩)⟩, (fun h => by cases h), (fun h => absurd rfl h)⟩
theorem tok333 : M.TI.Ok Tryz.prog 333 ti333 := ⟨by kernel_rfl, ⟨Tryz.t333, by kernel_rfl, by kernel_rfl, by kernel_rfl, (fun z h => by cases h; exact ⟨_, rfl, by kernel_rfl⟩)⟩, (fun h => by cases h), (fun h => absurd rfl h)⟩
theorem tok334 : M.TI.Ok Tryz.prog 334 ti334 := ⟨by kernel_rfl, ⟨Tryz.t334, by kernel_rfl, by kernel_rfl, by kernel_rfl, (fun z h => by cases h; exact ⟨_, rfl, by kernel_rfl⟩)⟩, (fun _ => rfl), (fun h => absurd rfl h)⟩
theorem tok335 : M.TI.Ok Tryz.prog 335 ti335 := ⟨by kernel_rfl, ⟨Tryz.t335, by kernel_rfl, by kernel_rfl, by kernel_rfl, (fun z h => by cases h; exact ⟨_, rfl, by kernel_rfl⟩)⟩, (fun _ => rfl), (fun h => absurd rfl h)⟩
theorem tok336 : M.TI.Ok Tryz.prog 336 ti336 := ⟨by kernel_rfl, ⟨Tryz.t336, by kernel_rfl, by kernel_rfl, by kernel_rfl, (fun z h => by cases h)⟩, (fun _ => rfl), (fun h => absurd rfl h)⟩
theorem tok337 : M.TI.Ok Tryz.prog 337 ti337 := ⟨by kernel_rfl, ⟨Tryz.t337, by kernel_rfl, by kernel_rfl, by kernel_rfl, (fun z h => by cases h; exact ⟨_, rfl, by kernel_rfl⟩)⟩, (fun _ => rfl), (fun h => absurd rfl h)⟩
theorem tok338 : M.TI.Ok Tryz.prog 338 ti338 := ⟨by kernel_rfl, ⟨Tryz.t338, by kernel_rfl, by kernel_rfl, by kernel_rfl, (fun z h => by cases h; exact ⟨_, rfl, by kernel_rfl⟩)⟩, (fun _ => rfl), (fun h => absurd rfl h)⟩
theorem tok339 : M.TI.Ok Tryz.prog 339 ti339 := ⟨by kernel_rfl, ⟨Tryz.t339, by kernel_rfl, by kernel_rfl, by kernel_rfl, (fun z h => by cases h; exact ⟨_, rfl, by kernel_rfl⟩)⟩, (fun _ => rfl), (fun h => absurd rfl h)⟩
theorem tok340 : M.TI.Ok Tryz.prog 340 ti340 := ⟨by kernel_rfl, ⟨Tryz.t340, by kernel_rfl, by kernel_rfl, by kernel_rfl, (fun z h => by cases h; exact ⟨_, rfl, by kernel_rfl⟩)⟩, (fun _ => rfl), (fun h => absurd rfl h)⟩
theorem tok341 : M.TI.Ok Tryz.prog 341 ti341 := ⟨by kernel_rfl, ⟨Tryz.t341, by kernel_rfl, by kernel_rfl, by kernel_rfl, (fun z h => by cases h; exact ⟨_, rfl, by kernel_rfl⟩)⟩, (fun h => by cases h), (fun h => absurd rfl h)⟩
theorem tok342 : M.TI.Ok Tryz.prog 342 ti342 := ⟨by kernel_rfl, ⟨Tryz.t342, by kernel_rfl, by kernel_rfl, by kernel_rfl, (fun z h => by cases h; exact ⟨_, rfl, by kernel_rfl⟩)⟩, (fun h => by cases h), (fun h => absurd rfl h)⟩
theorem tok343 : M.TI.Ok Tryz.prog 343 ti343 := ⟨by kernel_rfl, ⟨Tryz.t343, by kernel_rfl, by kernel_rfl, by kernel_rfl, (fun z h => by cases h)⟩, (fun _ => rfl), (fun h => absurd rfl h)⟩
theorem tok344 : M.TI.Ok Tryz.prog 344 ti344 := ⟨by kernel_rfl, ⟨Tryz.t344, by kernel_rfl, by kernel_rfl, by kernel_rfl, (fun z h => by cases h; exact ⟨_, rfl, by kernel_rfl⟩)⟩, (fun _ => rfl), (fun h => absurd rfl h)⟩
theorem tok345 : M.TI.Ok Tryz.prog 345 ti345 := ⟨by kernel_rfl, ⟨Tryz.t345, by kernel_rfl, by kernel_rfl, by kernel_rfl, (fun z h => by cases h)⟩, (fun _ => rfl), (fun h => absurd rfl h)⟩
theorem tok346 : M.TI.Ok Tryz.prog 346 ti346 := ⟨by kernel_rfl, ⟨Tryz.t346, by kernel_rfl, by kernel_rfl, by kernel_rfl, (fun z h => by cases h)⟩, (fun _ => rfl), (fun h => absurd rfl h)⟩
theorem tok347 : M.TI.Ok Tryz.prog 347 ti347 := ⟨by kernel_rfl, ⟨Tryz.t347, by kernel_rfl, by kernel_rfl, by kernel_rfl, (fun z h => by cases h; exact ⟨_, rfl, by kernel_rfl⟩)⟩, (fun _ => rfl), (fun h => absurd rfl h)⟩
theorem tok348 : M.TI.Ok Tryz.prog 348 ti348 := ⟨by kernel_rfl, ⟨Tryz.t348, by kernel_rfl, by kernel_rfl, by kernel_rfl, (fun z h => by cases h; exact ⟨_, rfl, by kernel_rfl⟩)⟩, (fun h => by cases h), (fun _ => ⟨by kernel_rfl, by kernel_rfl⟩)⟩
theorem tok349 : M.TI.Ok Tryz.prog 349 ti349 := ⟨by kernel_rfl, ⟨Tryz.t349, by kernel_rfl, by kernel_rfl, by kernel_rfl, (fun z h => by cases h; exact ⟨_, rfl, by kernel_rfl⟩)⟩, (fun h => by cases h), (fun _ => ⟨by kernel_rfl, by kernel_rfl⟩)⟩
theorem tok350 : M.TI.Ok Tryz.prog 350 ti350 := ⟨by kernel_rfl, ⟨Tryz.t350, by kernel_rfl, by kernel_rfl, by kernel_rfl, (fun z h => by cases h; exact ⟨_, rfl, by kernel_rfl⟩)⟩, (fun _ => rfl), (fun h => absurd rfl h)⟩
theorem tok351 : M.TI.Ok Tryz.prog 351 ti351 := ⟨by kernel_rfl, ⟨Tryz.t351, by kernel_rfl, by kernel_rfl, by kernel_rfl, (fun z h => by cases h; exact ⟨_, rfl, by kernel_rfl⟩)⟩, (fun _ => rfl), (fun h => absurd rfl h)⟩
theorem tok352 : M.TI.Ok Tryz.prog 352 ti352 := ⟨by kernel_rfl, ⟨Tryz.t352, by kernel_rfl, by kernel_rfl, by kernel_rfl, (fun z h => by cases h; exact ⟨_, rfl, by kernel_rfl⟩)⟩, (fun h => by cases h), (fun _ => ⟨by kernel_rfl, by kernel_rfl⟩)⟩
theorem tok353 : M.TI.Ok Tryz.prog 353 ti353 := ⟨by kernel_rfl, ⟨Tryz.t353, by kernel_rfl, by kernel_rfl, by kernel_rfl, (fun z h => by cases h; exact ⟨_, rfl, by kernel_rfl⟩)⟩, (fun h => by cases h), (fun _ => ⟨by kernel_rfl, by kernel_rfl⟩)⟩
theorem tok354 : M.TI.Ok Tryz.prog 354 ti354 := ⟨by kernel_rfl, ⟨Tryz.t354, by kernel_rfl, by kernel_rfl, by kernel_rfl, (fun z h => by cases h; exact ⟨_, rfl, by kernel_rfl⟩)⟩, (fun _ => rfl), (fun h => absurd rfl h)⟩
theorem tok355 : M.TI.Ok Tryz.prog 355 ti355 := ⟨by kernel_rfl, ⟨Tryz.t355, by kernel_rfl, by kernel_rfl, by kernel_rfl, (fun z h => by cases h; exact ⟨_, rfl, by kernel_rfl⟩)⟩, (fun _ => rfl), (fun h => absurd rfl h)⟩
theorem tok356 : M.TI.Ok Tryz.prog 356 ti356 := ⟨by kernel_rfl, ⟨Tryz.t356, by kernel_rfl, by kernel_rfl, by kernel_rfl, (fun z h => by cases h; exact ⟨_, rfl, by kernel_rfl⟩)⟩, (fun _ => rfl), (fun h => absurd rfl h)⟩
theorem tok357 : M.TI.Ok Tryz.prog 357 ti357 := ⟨by kernel_rfl, ⟨Tryz.t357, by kernel_rfl, by kernel_rfl, by kernel_rfl, (fun z h => by cases h; exact ⟨_, rfl, by kernel_rfl⟩)⟩, (fun _ => rfl), (fun h => absurd rfl h)⟩
theorem tok358 : M.TI.Ok Tryz.prog 358 ti358 := ⟨by kernel_rfl, ⟨Tryz.t358, by kernel_rfl, by kernel_rfl, by kernel_rfl, (fun z h => by cases h; exact ⟨_, rfl, by kernel_rfl⟩)⟩, (fun _ => rfl), (fun h => absurd rfl h)⟩
theorem tok359 : M.TI.Ok Tryz.prog 359 ti359 := ⟨by kernel_rfl, ⟨Tryz.t359, by kernel_rfl, by kernel_rfl, by kernel_rfl, (fun z h => by cases h; exact ⟨_, rfl, by kernel_rfl⟩)⟩, (fun _ => rfl), (fun h => absurd rfl h)⟩
theorem tok360 : M.TI.Ok Tryz.prog 360 ti360 := ⟨by kernel_rfl, ⟨Tryz.t360, by kernel_rfl, by kernel_rfl, by kernel_rfl, (fun z h => by cases h; exact ⟨_, rfl, by kernel_rfl⟩)⟩, (fun _ => rfl), (fun h => absurd rfl h)⟩
theorem tok361 : M.TI.Ok Tryz.prog 361 ti361 := ⟨by kernel_rfl, ⟨Tryz.t361, by kernel_rfl, by kernel_rfl, by kernel_rfl, (fun z h => by cases h; exact ⟨_, rfl, by kernel_rfl⟩)⟩, (fun _ => rfl), (fun h => absurd rfl h)⟩
theorem tok362 : M.TI.Ok Tryz.prog 362 ti362 := ⟨by kernel_rfl, ⟨Tryz.t362, by kernel_rfl, by kernel_rfl, by kernel_rfl, (fun z h => by cases h; exact ⟨_, rfl, by kernel_rfl⟩)⟩, (fun _ => rfl), (fun h => absurd rfl h)⟩
theorem tok363 : M.TI.Ok Tryz.prog 363 ti363 := ⟨by kernel_rfl, ⟨Tryz.t363, by kernel_rfl, by kernel_rfl, by kernel_rfl, (fun z h => by cases h; exact ⟨_, rfl, by kernel_rfl⟩)⟩, (fun _ => rfl), (fun h => absurd rfl h)⟩
theorem tok364 : M.TI.Ok Tryz.prog 364 ti364 := ⟨by kernel_rfl, ⟨Tryz.t364, by kernel_rfl, by kernel_rfl, by kernel_rfl, (fun z h => by cases h; exact ⟨_, rfl, by kernel_rfl⟩)⟩, (fun _ => rfl), (fun h => absurd rfl h)⟩
theorem tok365 : M.TI.Ok Tryz.prog 365 ti365 := ⟨by kernel_rfl, ⟨Tryz.t365, by kernel_rfl, by kernel_rfl, by kernel_rfl, (fun z h => by cases h; exact ⟨_, rfl, by kernel_rfl⟩)⟩, (fun _ => rfl), (fun h => absurd rfl h)⟩
theorem tok366 : M.TI.Ok Tryz.prog 366 ti366 := ⟨by kernel_rfl, ⟨Tryz.t366, by kernel_rfl, by kernel_rfl, by kernel_rfl, (fun z h => by cases h; exact ⟨_, rfl, by kernel_rfl⟩)⟩, (fun _ => rfl), (fun h => absurd rfl h)⟩
theorem tok367 : M.TI.Ok Tryz.prog 367 ti367 := ⟨by kernel_rfl, ⟨Tryz.t367, by kernel_rfl, by kernel_rfl, by kernel_rfl, (fun z h => by cases h; exact ⟨_, rfl, by kernel_rfl⟩)⟩, (fun _ => rfl), (fun h => absurd rfl h)⟩
theorem tok368 : M.TI.Ok Tryz.prog 368 ti368 := ⟨by kernel_rfl, ⟨Tryz.t368, by kernel_rfl, by kernel_rfl, by kernel_rfl, (fun z h => by cases h; exact ⟨_, rfl, by kernel_rfl⟩)⟩, (fun h => by cases h), (fun h => absurd rfl h)⟩
theorem tok369 : M.TI.Ok Tryz.prog 369 ti369 := ⟨by kernel_rfl, ⟨Tryz.t369, by kernel_rfl, by kernel_rfl, by kernel_rfl, (fun z h => by cases h; exact ⟨_, rfl, by kernel_rfl⟩)⟩, (fun h => by cases h), (fun h => absurd rfl h)⟩
theorem tok370 : M.TI.Ok Tryz.prog 370 ti370 := ⟨by kernel_rfl, ⟨Tryz.t370, by kernel_rfl, by kernel_rfl, by kernel_rfl, (fun z h => by cases h; exact ⟨_, rfl, by kernel_rfl⟩)⟩, (fun _ => rfl), (fun h => absurd rfl h)⟩
theorem tok371 : M.TI.Ok Tryz.prog 371 ti371 := ⟨by kernel_rfl, ⟨Tryz.t371, by kernel_rfl, by kernel_rfl, by kernel_rfl, (fun z h => by cases h; exact ⟨_, rfl, by kernel_rfl⟩)⟩, (fun _ => rfl), (fun h => absurd rfl h)⟩
theorem tok372 : M.TI.Ok Tryz.prog 372 ti372 := ⟨by kernel_rfl, ⟨Tryz.t372, by kernel_rfl, by kernel_rfl, by kernel_rfl, (fun z h => by cases h; exact ⟨_, rfl, by kernel_rfl⟩)⟩, (fun _ => rfl), (fun h => absurd rfl h)⟩
theorem tok373 : M.TI.Ok Tryz.prog 373 ti373 := ⟨by kernel_rfl, ⟨Tryz.t373, by kernel_rfl, by kernel_rfl, by kernel_rfl, (fun z h => by cases h; exact ⟨_, rfl, by kernel_rfl⟩)⟩, (fun _ => rfl), (fun h => absurd rfl h)⟩
theorem tok374 : M.TI.Ok Tryz.prog 374 ti374 := ⟨by kernel_rfl, ⟨Tryz.t374, by kernel_rfl, by kernel_rfl, by kernel_rfl, (fun z h => by cases h; exact ⟨_, rfl, by kernel_rfl⟩)⟩, (fun _ => rfl), (fun h => absurd rfl h)⟩
theorem tok375 : M.TI.Ok Tryz.prog 375 ti375 := ⟨by kernel_rfl, ⟨Tryz.t375, by kernel_rfl, by kernel_rfl, by kernel_rfl, (fun z h => by cases h; exact ⟨_, rfl, by kernel_rfl⟩)⟩, (fun _ => rfl), (fun h => absurd rfl h)⟩
theorem tok376 : M.TI.Ok Tryz.prog 376 ti376 := ⟨by kernel_rfl, ⟨Tryz.t376, by kernel_rfl, by kernel_rfl, by kernel_rfl, (fun z h => by cases h; exact ⟨_, rfl, by kernel_rfl⟩)⟩, (fun _ => rfl), (fun h => absurd rfl h)⟩
theorem tok377 : M.TI.Ok Tryz.prog 377 ti377 := ⟨by kernel_rfl, ⟨Tryz.t377, by kernel_rfl, by kernel_rfl, by kernel_rfl, (fun z h => by cases h; exact ⟨_, rfl, by kernel_rfl⟩)⟩, (fun _ => rfl), (fun h => absurd rfl h)⟩
theorem tok378 : M.TI.Ok Tryz.prog 378 ti378 := ⟨by kernel_rfl, ⟨Tryz.t378, by kernel_rfl, by kernel_rfl, by kernel_rfl, (fun z h => by cases h; exact ⟨_, rfl, by kernel_rfl⟩)⟩, (fun _ => rfl), (fun h => absurd rfl h)⟩
theorem tok379 : M.TI.Ok Tryz.prog 379 ti379 := ⟨by kernel_rfl, ⟨Tryz.t379, by kernel_rfl, by kernel_rfl, by kernel_rfl, (fun z h => by cases h; exact ⟨_, rfl, by kernel_rfl⟩)⟩, (fun _ => rfl), (fun h => absurd rfl h)⟩
theorem tok380 : M.TI.Ok Tryz.prog 380 ti380 := ⟨by kernel_rfl, ⟨Tryz.t380, by kernel_rfl, by kernel_rfl, by kernel_rfl, (fun z h => by cases h; exact ⟨_, rfl, by kernel_rfl⟩)⟩, (fun _ => rfl), (fun h => absurd rfl h)⟩
theorem tok381 : M.TI.Ok Tryz.prog 381 ti381 := ⟨by kernel_rfl, ⟨Tryz.t381, by kernel_rfl, by kernel_rfl, by kernel_rfl, (fun z h => by cases h; exact ⟨_, rfl, by kernel_rfl⟩)⟩, (fun _ => rfl), (fun h => absurd rfl h)⟩
theorem tok382 : M.TI.Ok Tryz.prog 382 ti382 := ⟨by kernel_rfl, ⟨Tryz.t382, by kernel_rfl, by kernel_rfl, by kernel_rfl, (fun z h => by cases h; exact ⟨_, rfl, by kernel_rfl⟩)⟩, (fun _ => rfl), (fun h => absurd rfl h)⟩
theorem tok383 : M.TI.Ok Tryz.prog 383 ti383 := ⟨by kernel_rfl, ⟨Tryz.t383, by kernel_rfl, by kernel_rfl, by kernel_rfl, (fun z h => by cases h; exact ⟨_, rfl, by kernel_rfl⟩)⟩, (fun h => by cases h), (fun _ => ⟨by kernel_rfl, by kernel_rfl⟩)⟩
theorem tok384 : M.TI.Ok Tryz.prog 384 ti384 := ⟨by kernel_rfl, ⟨Tryz.t384, by kernel_rfl, by kernel_rfl, by kernel_rfl, (fun z h => by cases h; exact ⟨_, rfl, by kernel_rfl⟩)⟩, (fun h => by cases h), (fun _ => ⟨by kernel_rfl, by kernel_rfl⟩)⟩
theorem tok385 : M.TI.Ok Tryz.prog 385 ti385 := ⟨by kernel_rfl, ⟨Tryz.t385, by kernel_rfl, by kernel_rfl, by kernel_rfl, (fun z h => by cases h; exact ⟨_, rfl, by kernel_rfl⟩)⟩, (fun _ => rfl), (fun h => absurd rfl h)⟩
theorem tok386 : M.TI.Ok Tryz.prog 386 ti386 := ⟨by kernel_rfl, ⟨Tryz.t386, by kernel_rfl, by kernel_rfl, by kernel_rfl, (fun z h => by cases h; exact ⟨_, rfl, by kernel_rfl⟩)⟩, (fun _ => rfl), (fun h => absurd rfl h)⟩
theorem tok387 : M.TI.Ok Tryz.prog 387 ti387 := ⟨by kernel_rfl, ⟨Tryz.t387, by kernel_rfl, by kernel_rfl, by kernel_rfl, (fun z h => by cases h; exact ⟨_, rfl, by kernel_rfl⟩)⟩, (fun _ => rfl), (fun h => absurd rfl h)⟩
theorem tok388 : M.TI.Ok Tryz.prog 388 ti388 := ⟨by kernel_rfl, ⟨Tryz.t388, by kernel_rfl, by kernel_rfl, by kernel_rfl, (fun z h => by cases h; exact ⟨_, rfl, by kernel_rfl⟩)⟩, (fun _ => rfl), (fun h => absurd rfl h)⟩
theorem tok389 : M.TI.Ok Tryz.prog 389 ti389 := ⟨by kernel_rfl, ⟨Tryz.t389, by kernel_rfl, by kernel_rfl, by kernel_rfl, (fun z h => by cases h; exact ⟨_, rfl, by kernel_rfl⟩)⟩, (fun _ => rfl), (fun h => absurd rfl h)⟩
theorem tok390 : M.TI.Ok Tryz.prog 390 ti390 := ⟨by kernel_rfl, ⟨Tryz.t390, by kernel_rfl, by kernel_rfl, by kernel_rfl, (fun z h => by cases h; exact ⟨_, rfl, by kernel_rfl⟩)⟩, (fun _ => rfl), (fun h => absurd rfl h)⟩
theorem tok391 : M.TI.Ok Tryz.prog 391 ti391 := ⟨by kernel_rfl, ⟨Tryz.t391, by kernel_rfl, by kernel_rfl, by kernel_rfl, (fun z h => by cases h; exact ⟨_, rfl, by kernel_rfl⟩)⟩, (fun _ => rfl), (fun h => absurd rfl h)⟩
theorem tok392 : M.TI.Ok Tryz.prog 392 ti392 := ⟨by kernel_rfl, ⟨Tryz.t392, by kernel_rfl, by kernel_rfl, by kernel_rfl, (fun z h => by cases h)⟩, (fun _ => rfl), (fun h => absurd rfl h)⟩
theorem tok393 : M.TI.Ok Tryz.prog 393 ti393 := ⟨by kernel_rfl, ⟨Tryz.t393, by kernel_rfl, by kernel_rfl, by kernel_rfl, (fun z h => by cases h; exact ⟨_, rfl, by kernel_rfl⟩)⟩, (fun _ => rfl), (fun h => absurd rfl h)⟩
theorem tok394 : M.TI.Ok Tryz.prog 394 ti394 := ⟨by kernel_rfl, ⟨Tryz.t394, by kernel_rfl, by kernel_rfl, by kernel_rfl, (fun z h => by cases h; exact ⟨_, rfl, by kernel_rfl⟩)⟩, (fun _ => rfl), (fun h => absurd rfl h)⟩
theorem tok395 : M.TI.Ok Tryz.prog 395 ti395 := ⟨by kernel_rfl, ⟨Tryz.t395, by kernel_rfl, by kernel_rfl, by kernel_rfl, (fun z h => by cases h)⟩, (fun _ => rfl), (fun h => absurd rfl h)⟩
theorem tok396 : M.TI.Ok Tryz.prog 396 ti396 := ⟨by kernel_rfl, ⟨Tryz.t396, by kernel_rfl, by kernel_rfl, by kernel_rfl, (fun z h => by cases h; exact ⟨_, rfl, by kernel_rfl⟩)⟩, (fun _ => rfl), (fun h => absurd rfl h)⟩
theorem tok397 : M.TI.Ok Tryz.prog 397 ti397 := ⟨by kernel_rfl, ⟨Tryz.t397, by kernel_rfl, by kernel_rfl, by kernel_rfl, (fun z h => by cases h; exact ⟨_, rfl, by kernel_rfl⟩)⟩, (fun _ => rfl), (fun h => absurd rfl h)⟩
theorem tok398 : M.TI.Ok Tryz.prog 398 ti398 := ⟨by kernel_rfl, ⟨Tryz.t398, by kernel_rfl, by kernel_rfl, by kernel_rfl, (fun z h => by cases h)⟩, (fun _ => rfl), (fun h => absurd rfl h)⟩
theorem tok399 : M.TI.Ok Tryz.prog 399 ti399 := ⟨by kernel_rfl, ⟨Tryz.t399, by kernel_rfl, by kernel_rfl, by kernel_rfl, (fun z h => by cases h; exact ⟨_, rfl, by kernel_rfl⟩)⟩, (fun _ => rfl), (fun h => absurd rfl h)⟩
theorem tok400 : M.TI.Ok Tryz.prog 400 ti400 := ⟨by kernel_rfl, ⟨Tryz.t400, by kernel_rfl, by kernel_rfl, by kernel_rfl, (fun z h => by cases h; exact ⟨_, rfl, by kernel_rfl⟩)⟩, (fun _ => rfl), (fun h => absurd rfl h)⟩
theorem tok401 : M.TI.Ok Tryz.prog 401 ti401 := ⟨by kernel_rfl, ⟨Tryz.t401, by kernel_rfl, by kernel_rfl, by kernel_rfl, (fun z h => by cases h; exact ⟨_, rfl, by kernel_rfl⟩)⟩, (fun _ => rfl), (fun h => absurd rfl h)⟩
theorem tok402 : M.TI.Ok Tryz.prog 402 ti402 := ⟨by kernel_rfl, ⟨Tryz.t402, by kernel_rfl, by kernel_rfl, by kernel_rfl, (fun z h => by cases h; exact ⟨_, rfl, by kernel_rfl⟩)⟩, (fun _ => rfl), (fun h => absurd rfl h)⟩
theorem tok403 : M.TI.Ok Tryz.prog 403 ti403 := ⟨by kernel_rfl, ⟨Tryz.t403, by kernel_rfl, by kernel_rfl, by kernel_rfl, (fun z h => by cases h; exact ⟨_, rfl, by kernel_rfl⟩)⟩, (fun _ => rfl), (fun h => absurd rfl h)⟩
theorem tok404 : M.TI.Ok Tryz.prog 404 ti404 := ⟨by kernel_rfl, ⟨Tryz.t404, by kernel_rfl, by kernel_rfl, by kernel_rfl, (fun z h => by cases h; exact ⟨_, rfl, by kernel_rfl⟩)⟩, (fun _ => rfl), (fun h => absurd rfl h)⟩
theorem tok405 : M.TI.Ok Tryz.prog 405 ti405 := ⟨by kernel_rfl, ⟨Tryz.t405, by kernel_rfl, by kernel_rfl, by kernel_rfl, (fun z h => by cases h; exact ⟨_, rfl, by kernel_rfl⟩)⟩, (fun _ => rfl), (fun h => absurd rfl h)⟩
theorem tok406 : M.TI.Ok Tryz.prog 406 ti406 := ⟨by kernel_rfl, ⟨Tryz.t406, by kernel_rfl, by kernel_rfl, by kernel_rfl, (fun z h => by cases h; exact ⟨_, rfl, by kernel_rfl⟩)⟩, (fun _ => rfl), (fun h => absurd rfl h)⟩
theorem tok407 : M.TI.Ok Tryz.prog 407 ti407 := ⟨by kernel_rfl, ⟨Tryz.t407, by kernel_rfl, by kernel_rfl, by kernel_rfl, (fun z h => by cases h; exact ⟨_, rfl, by kernel_rfl⟩)⟩, (fun _ => rfl), (fun h => absurd rfl h)⟩
theorem tok408 : M.TI.Ok Tryz.prog 408 ti408 := ⟨by kernel_rfl, ⟨Tryz.t408, by kernel_rfl, by kernel_rfl, by kernel_rfl, (fun z h => by cases h; exact ⟨_, rfl, by kernel_rfl⟩)⟩, (fun _ => rfl), (fun h => absurd rfl h)⟩
theorem tok409 : M.TI.Ok Tryz.prog 409 ti409 := ⟨by kernel_rfl, ⟨Tryz.t409, by kernel_rfl, by kernel_rfl, by kernel_rfl, (fun z h => by cases h; exact ⟨_, rfl, by kernel_rfl⟩)⟩, (fun _ => rfl), (fun h => absurd rfl h)⟩
theorem tok410 : M.TI.Ok Tryz.prog 410 ti410 := ⟨by kernel_rfl, ⟨Tryz.t410, by kernel_rfl, by kernel_rfl, by kernel_rfl, (fun z h => by cases h; exact ⟨_, rfl, by kernel_rfl⟩)⟩, (fun _ => rfl), (fun h => absurd rfl h)⟩
theorem tok411 : M.TI.Ok Tryz.prog 411 ti411 := ⟨by kernel_rfl, ⟨Tryz.t411, by kernel_rfl, by kernel_rfl, by kernel_rfl, (fun z h => by cases h; exact ⟨_, rfl, by kernel_rfl⟩)⟩, (fun h => by cases h), (fun h => absurd rfl h)⟩
theorem tok412 : M.TI.Ok Tryz.prog 412 ti412 := ⟨by kernel_rfl, ⟨Tryz.t412, by kernel_rfl, by kernel_rfl, by kernel_rfl, (fun z h => by cases h; exact ⟨_, rfl, by kernel_rfl⟩)⟩, (fun h => by cases h), (fun h => absurd rfl h)⟩
theorem tok413 : M.TI.Ok Tryz.prog 413 ti413 := ⟨by kernel_rfl, ⟨Tryz.t413, by kernel_rfl, by kernel_rfl, by kernel_rfl, (fun z h => by cases h; exact ⟨_, rfl, by kernel_rfl⟩)⟩, (fun h => by cases h), (fun h => absurd rfl h)⟩
theorem tok414 : M.TI.Ok Tryz.prog 414 ti414 := ⟨by kernel_rfl, ⟨Tryz.t414, by kernel_rfl, by kernel_rfl, by kernel_rfl, (fun z h => by cases h; exact ⟨_, rfl, by kernel_rfl⟩)⟩, (fun h => by cases h), (fun h => absurd rfl h)⟩
theorem tok415 : M.TI.Ok Tryz.prog 415 ti415 := ⟨by kernel_rfl, ⟨Tryz.t415, by kernel_rfl, by kernel_rfl, by kernel_rfl, (fun z h => by cases h; exact ⟨_, rfl, by kernel_rfl⟩)⟩, (fun h => by cases h), (fun h => absurd rfl h)⟩
theorem tok416 : M.TI.Ok Tryz.prog 416 ti416 := ⟨by kernel_rfl, ⟨Tryz.t416, by kernel_rfl, by kernel_rfl, by kernel_rfl, (fun z h => by cases h; exact ⟨_, rfl, by kernel_rfl⟩)⟩, (fun _ => rfl), (fun h => absurd rfl h)⟩
theorem tok417 : M.TI.Ok Tryz.prog 417 ti417 := ⟨by kernel_rfl, ⟨Tryz.t417, by kernel_rfl, by kernel_rfl, by kernel_rfl, (fun z h => by cases h; exact ⟨_, rfl, by kernel_rfl⟩)⟩, (fun _ => rfl), (fun h => absurd rfl h)⟩
theorem tok418 : M.TI.Ok Tryz.prog 418 ti418 := ⟨by kernel_rfl, ⟨Tryz.t418, by kernel_rfl, by kernel_rfl, by kernel_rfl, (fun z h => by cases h; exact ⟨_, rfl, by kernel_rfl⟩)⟩, (fun _ => rfl), (fun h => absurd rfl h)⟩
theorem tok419 : M.TI.Ok Tryz.prog 419 ti419 := ⟨by kernel_rfl, ⟨Tryz.t419, by kernel_rfl, by kernel_rfl, by kernel_rfl, (fun z h => by cases h; exact ⟨_, rfl, by kernel_rfl⟩)⟩, (fun _ => rfl), (fun h => absurd rfl h)⟩
theorem tok420 : M.TI.Ok Tryz.prog 420 ti420 := ⟨by kernel_rfl, ⟨Tryz.t420, by kernel_rfl, by kernel_rfl, by kernel_rfl, (fun z h => by cases h; exact ⟨_, rfl, by kernel_rfl⟩)⟩, (fun _ => rfl), (fun h => absurd rfl h)⟩
theorem tok421 : M.TI.Ok Tryz.prog 421 ti421 := ⟨by kernel_rfl, ⟨Tryz.t421, by kernel_rfl, by kernel_rfl, by kernel_rfl, (fun z h => by cases h; exact ⟨_, rfl, by kernel_rfl⟩)⟩, (fun _ => rfl), (fun h => absurd rfl h)⟩
theorem tok422 : M.TI.Ok Tryz.prog 422 ti422 := ⟨by kernel_rfl, ⟨Tryz.t422, by kernel_rfl, by kernel_rfl, by kernel_rfl, (fun z h => by cases h; exact ⟨_, rfl, by kernel_rfl⟩)⟩, (fun _ => rfl), (fun h => absurd rfl h)⟩
theorem tok423 : M.TI.Ok Tryz.prog 423 ti423 := ⟨by kernel_rfl, ⟨Tryz.t423, by kernel_rfl, by kernel_rfl, by kernel_rfl, (fun z h => by cases h; exact ⟨_, rfl, by kernel_rfl⟩)⟩, (fun h => by cases h), (fun h => absurd rfl h)⟩
theorem tok424 : M.TI.Ok Tryz.prog 424 ti424 := ⟨by kernel_rfl, ⟨Tryz.t424, by kernel_rfl, by kernel_rfl, by kernel_rfl, (fun z h => by cases h; exact ⟨_, rfl, by kernel_rfl⟩)⟩, (fun h => by cases h), (fun h => absurd rfl h)⟩
theorem tok425 : M.TI.Ok Tryz.prog 425 ti425 := ⟨by kernel_rfl, ⟨Tryz.t425, by kernel_rfl, by kernel_rfl, by kernel_rfl, (fun z h => by cases h; exact ⟨_, rfl, by kernel_rfl⟩)⟩, (fun _ => rfl), (fun h => absurd rfl h)⟩
theorem tok426 : M.TI.Ok Tryz.prog 426 ti426 := ⟨by kernel_rfl, ⟨Tryz.t426, by kernel_rfl, by kernel_rfl, by kernel_rfl, (fun z h => by cases h; exact ⟨_, rfl, by kernel_rfl⟩)⟩, (fun _ => rfl), (fun h => absurd rfl h)⟩
theorem tok427 : M.TI.Ok Tryz.prog 427 ti427 := ⟨by kernel_rfl, ⟨Tryz.t427, by kernel_rfl, by kernel_rfl, by kernel_rfl, (fun z h => by cases h; exact ⟨_, rfl, by kernel_rfl⟩)⟩, (fun _ => rfl), (fun h => absurd rfl h)⟩
theorem tiT_ok : tiT.All (M.TI.Ok Tryz.prog) 0 := ⟨⟨⟨⟨⟨⟨⟨⟨tok0, ⟨tok1, tok2⟩⟩, ⟨tok3, ⟨tok4, tok5⟩⟩⟩, ⟨⟨tok6, ⟨tok7, tok8⟩⟩, ⟨⟨tok9, tok10⟩, ⟨tok11, tok12⟩⟩⟩⟩, ⟨⟨⟨tok13, ⟨tok14, tok15⟩⟩, ⟨tok16, ⟨tok17, tok18⟩⟩⟩, ⟨⟨tok19, ⟨tok20, tok21⟩⟩, ⟨⟨tok22, tok23⟩, ⟨tok24, tok25⟩⟩⟩⟩⟩, ⟨⟨⟨⟨tok26, ⟨tok27, tok28⟩⟩, ⟨tok29, ⟨tok30, tok31⟩⟩⟩, ⟨⟨tok32, ⟨tok33, tok34⟩⟩, ⟨⟨tok35, tok36⟩, ⟨tok37, tok38⟩⟩⟩⟩, ⟨⟨⟨tok39, ⟨tok40, tok41⟩⟩, ⟨⟨tok42, tok43⟩, ⟨tok44, tok45⟩⟩⟩, ⟨⟨tok46, ⟨tok47, tok48⟩⟩, ⟨⟨tok49, tok50⟩, ⟨tok51, tok52⟩⟩⟩⟩⟩⟩, ⟨⟨⟨⟨⟨tok53, ⟨tok54, tok55⟩⟩, ⟨tok56, ⟨tok57, tok58⟩⟩⟩, ⟨⟨tok59, ⟨tok60, tok61⟩⟩, ⟨⟨tok62, tok63⟩, ⟨tok64, tok65⟩⟩⟩⟩, ⟨⟨⟨tok66, ⟨tok67, tok68⟩⟩, ⟨⟨tok69, tok70⟩, ⟨tok71, tok72⟩⟩⟩, ⟨⟨tok73, ⟨tok74, tok75⟩⟩, ⟨⟨tok76, tok77⟩, ⟨tok78, tok79⟩⟩⟩⟩⟩, ⟨⟨⟨⟨tok80, ⟨tok81, tok82⟩⟩, ⟨tok83, ⟨tok84, tok85⟩⟩⟩, ⟨⟨tok86, ⟨tok87, tok88⟩⟩, ⟨⟨tok89, tok90⟩, ⟨tok91, tok92⟩⟩⟩⟩, ⟨⟨⟨tok93, ⟨tok94, tok95⟩⟩, ⟨⟨tok96, tok97⟩, ⟨tok98, tok99⟩⟩⟩, ⟨⟨tok100, ⟨tok101, tok102⟩⟩, ⟨⟨tok103, tok104⟩, ⟨tok105, tok106⟩⟩⟩⟩⟩⟩⟩, ⟨⟨⟨⟨⟨⟨tok107, ⟨tok108, tok109⟩⟩, ⟨tok110, ⟨tok111, tok112⟩⟩⟩, ⟨⟨tok113, ⟨tok114, tok115⟩⟩, ⟨⟨tok116, tok117⟩, ⟨tok118, tok119⟩⟩⟩⟩, ⟨⟨⟨tok120, ⟨tok121, tok122⟩⟩, ⟨tok123, ⟨tok124, tok125⟩⟩⟩, ⟨⟨tok126, ⟨tok127, tok128⟩⟩, ⟨⟨tok129, tok130⟩, ⟨tok131, tok132⟩⟩⟩⟩⟩, ⟨⟨⟨⟨tok133, ⟨tok134, tok135⟩⟩, ⟨tok136, ⟨tok137, tok138⟩⟩⟩, ⟨⟨tok139, ⟨tok140, tok141⟩⟩, ⟨⟨tok142, tok143⟩, ⟨tok144, tok145⟩⟩⟩⟩, ⟨⟨⟨tok146, ⟨tok147, tok148⟩⟩, ⟨⟨tok149, tok150⟩, ⟨tok151, tok152⟩⟩⟩, ⟨⟨tok153, ⟨tok154, tok155⟩⟩, ⟨⟨tok156, tok157⟩, ⟨tok158, tok159⟩⟩⟩⟩⟩⟩, ⟨⟨⟨⟨⟨tok160, ⟨tok161, tok162⟩⟩, ⟨tok163, ⟨tok164, tok165⟩⟩⟩, ⟨⟨tok166, ⟨tok167, tok168⟩⟩, ⟨⟨tok169, tok170⟩, ⟨tok171, tok172⟩⟩⟩⟩, ⟨⟨⟨tok173, ⟨tok174, tok175⟩⟩, ⟨⟨tok176, tok177⟩, ⟨tok178, tok179⟩⟩⟩, ⟨⟨tok180, ⟨tok181, tok182⟩⟩, ⟨⟨tok183, tok184⟩, ⟨tok185, tok186⟩⟩⟩⟩⟩, ⟨⟨⟨⟨tok187, ⟨tok188, tok189⟩⟩, ⟨tok190, ⟨tok191, tok192⟩⟩⟩, ⟨⟨tok193, ⟨tok194, tok195⟩⟩, ⟨⟨tok196, tok197⟩, ⟨tok198, tok199⟩⟩⟩⟩, ⟨⟨⟨tok200, ⟨tok201, tok202⟩⟩, ⟨⟨tok203, tok204⟩, ⟨tok205, tok206⟩⟩⟩, ⟨⟨tok207, ⟨tok208, tok209⟩⟩, ⟨⟨tok210, tok211⟩, ⟨tok212, tok213⟩⟩⟩⟩⟩⟩⟩⟩, ⟨⟨⟨⟨⟨⟨⟨tok214, ⟨tok215, tok216⟩⟩, ⟨tok217, ⟨tok218, tok219⟩⟩⟩, ⟨⟨tok220, ⟨tok221, tok222⟩⟩, ⟨⟨tok223, tok224⟩, ⟨tok225, tok226⟩⟩⟩⟩, ⟨⟨⟨tok227, ⟨tok228, tok229⟩⟩, ⟨tok230, ⟨tok231, tok232⟩⟩⟩, ⟨⟨tok233, ⟨tok234, tok235⟩⟩, ⟨⟨tok236, tok237⟩, ⟨tok238, tok239⟩⟩⟩⟩⟩, ⟨⟨⟨⟨tok240, ⟨tok241, tok242⟩⟩, ⟨tok243, ⟨tok244, tok245⟩⟩⟩, ⟨⟨tok246, ⟨tok247, tok248⟩⟩, ⟨⟨tok249, tok250⟩, ⟨tok251, tok252⟩⟩⟩⟩, ⟨⟨⟨tok253, ⟨tok254, tok255⟩⟩, ⟨⟨tok256, tok257⟩, ⟨tok258, tok259⟩⟩⟩, ⟨⟨tok260, ⟨tok261, tok262⟩⟩, ⟨⟨tok263, tok264⟩, ⟨tok265, tok266⟩⟩⟩⟩⟩⟩, ⟨⟨⟨⟨⟨tok267, ⟨tok268, tok269⟩⟩, ⟨tok270, ⟨tok271, tok272⟩⟩⟩, ⟨⟨tok273, ⟨tok274, tok275⟩⟩, ⟨⟨tok276, tok277⟩, ⟨tok278, tok279⟩⟩⟩⟩, ⟨⟨⟨tok280, ⟨tok281, tok282⟩⟩, ⟨⟨tok283, tok284⟩, ⟨tok285, tok286⟩⟩⟩, ⟨⟨tok287, ⟨tok288, tok289⟩⟩, ⟨⟨tok290, tok291⟩, ⟨tok292, tok293⟩⟩⟩⟩⟩, ⟨⟨⟨⟨tok294, ⟨tok295, tok296⟩⟩, ⟨tok297, ⟨tok298, tok299⟩⟩⟩, ⟨⟨tok300, ⟨tok301, tok302⟩⟩, ⟨⟨tok303, tok304⟩, ⟨tok305, tok306⟩⟩⟩⟩, ⟨⟨⟨tok307, ⟨tok308, tok309⟩⟩, ⟨⟨tok310, tok311⟩, ⟨tok312, tok313⟩⟩⟩, ⟨⟨tok314, ⟨tok315, tok316⟩⟩, ⟨⟨tok317, tok318⟩, ⟨tok319, tok320⟩⟩⟩⟩⟩⟩⟩, ⟨⟨⟨⟨⟨⟨tok321, ⟨tok322, tok323⟩⟩, ⟨tok324, ⟨tok325, tok326⟩⟩⟩, ⟨⟨tok327, ⟨tok328, tok329⟩⟩, ⟨⟨tok330, tok331⟩, ⟨tok332, tok333⟩⟩⟩⟩, ⟨⟨⟨tok334, ⟨tok335, tok336⟩⟩, ⟨tok337, ⟨tok338, tok339⟩⟩⟩, ⟨⟨tok340, ⟨tok341, tok342⟩⟩, ⟨⟨tok343, tok344⟩, ⟨tok345, tok346⟩⟩⟩⟩⟩, ⟨⟨⟨⟨tok347, ⟨tok348, tok349⟩⟩, ⟨tok350, ⟨tok351, tok352⟩⟩⟩, ⟨⟨tok353, ⟨tok354, tok355⟩⟩, ⟨⟨tok356, tok357⟩, ⟨tok358, tok359⟩⟩⟩⟩, ⟨⟨⟨tok360, ⟨tok361, tok362⟩⟩, ⟨⟨tok363, tok364⟩, ⟨tok365, tok366⟩⟩⟩, ⟨⟨tok367, ⟨tok368, tok369⟩⟩, ⟨⟨tok370, tok371⟩, ⟨tok372, tok373⟩⟩⟩⟩⟩⟩, ⟨⟨⟨⟨⟨tok374, ⟨tok375, tok376⟩⟩, ⟨tok377, ⟨tok378, tok379⟩⟩⟩, ⟨⟨tok380, ⟨tok381, tok382⟩⟩, ⟨⟨tok383, tok384⟩, ⟨tok385, tok386⟩⟩⟩⟩, ⟨⟨⟨tok387, ⟨tok388, tok389⟩⟩, ⟨⟨tok390, tok391⟩, ⟨tok392, tok393⟩⟩⟩, ⟨⟨tok394, ⟨tok395, tok396⟩⟩, ⟨⟨tok397, tok398⟩, ⟨tok399, tok400⟩⟩⟩⟩⟩, ⟨⟨⟨⟨tok401, ⟨tok402, tok403⟩⟩, ⟨tok404, ⟨tok405, tok406⟩⟩⟩, ⟨⟨tok407, ⟨tok408, tok409⟩⟩, ⟨⟨tok410, tok411⟩, ⟨tok412, tok413⟩⟩⟩⟩, ⟨⟨⟨tok414, ⟨tok415, tok416⟩⟩, ⟨⟨tok417, tok418⟩, ⟨tok419, tok420⟩⟩⟩, ⟨⟨tok421, ⟨tok422, tok423⟩⟩, ⟨⟨tok424, tok425⟩, ⟨tok426, tok427⟩⟩⟩⟩⟩⟩⟩⟩⟩
theorem fnT_fits : fnT.fits 358 = true := by kernel_rfl
theorem fnT_list : fnT.toList = Tryz.prog.funcs.toList := by kernel_rfl
theorem fok0 : M.fnOk Tryz.f0 = true := by kernel_rfl
theorem fok1 : M.fnOk Tryz.f1 = true := by kernel_rfl
theorem fok2 : M.fnOk Tryz.f2 = true := by kernel_rfl
theorem fok3 : M.fnOk Tryz.f3 = true := by kernel_rfl
theorem fok4 : M.fnOk Tryz.f4 = true := by kernel_rfl
theorem fok5 : M.fnOk Tryz.f5 = true := by kernel_rfl
theorem fok6 : M.fnOk Tryz.f6 = true := by kernel_rfl
theorem fok7 : M.fnOk Tryz.f7 = true := by kernel_rfl
theorem fok8 : M.fnOk Tryz.f8 = true := by kernel_rfl
theorem fok9 : M.fnOk Tryz.f9 = true := by kernel_rfl
theorem fok10 : M.fnOk Tryz.f10 = true := by kernel_rfl
theorem fok11 : M.fnOk Tryz.f11 = true := by kernel_rfl
theorem fok12 : M.fnOk Tryz.f12 = true := by kernel_rfl
theorem fok13 : M.fnOk Tryz.f13 = true := by kernel_rfl
theorem fok14 : M.fnOk Tryz.f14 = true := by kernel_rfl
theorem fok15 : M.fnOk Tryz.f15 = true := by kernel_rfl
theorem fok16 : M.fnOk Tryz.f16 = true := by kernel_rfl
theorem fok17 : M.fnOk Tryz.f17 = true := by kernel_rfl
theorem fok18 : M.fnOk Tryz.f18 = true := by kernel_rfl
theorem fok19 : M.fnOk Tryz.f19 = true := by kernel_rfl
theorem fok20 : M.fnOk Tryz.f20 = true := by kernel_rfl
theorem fok21 : M.fnOk Tryz.f21 = true := by kernel_rfl
theorem fok22 : M.fnOk Tryz.f22 = true := by kernel_rfl
theorem fok23 : M.fnOk Tryz.f23 = true := by kernel_rfl
theorem fok24 : M.fnOk Tryz.f24 = true := by kernel_rfl
theorem fok25 : M.fnOk Tryz.f25 = true := by kernel_rfl
theorem fok26 : M.fnOk Tryz.f26 = true := by kernel_rfl
theorem fok27 : M.fnOk Tryz.f27 = true := by kernel_rfl
theorem fok28 : M.fnOk Tryz.f28 = true := by kernel_rfl
theorem fok29 : M.fnOk Tryz.f29 = true := by kernel_rfl
theorem fok30 : M.fnOk Tryz.f30 = true := by kernel_rfl
theorem fok31 : M.fnOk Tryz.f31 = true := by kernel_rfl
theorem fok32 : M.fnOk Tryz.f32 = true := by kernel_rfl
theorem fok33 : M.fnOk Tryz.f33 = true := by kernel_rfl
theorem fok34 : M.fnOk Tryz.f34 = true := by kernel_rfl
theorem fok35 : M.fnOk Tryz.f35 = true := by kernel_rfl
theorem fok36 : M.fnOk Tryz.f36 = true := by kernel_rfl
theorem fok37 : M.fnOk Tryz.f37 = true := by kernel_rfl
theorem fok38 : M.fnOk Tryz.f38 = true := by kernel_rfl
theorem fok39 : M.fnOk Tryz.f39 = true := by kernel_rfl
theorem fok40 : M.fnOk Tryz.f40 = true := by kernel_rfl
theorem fok41 : M.fnOk Tryz.f41 = true := by kernel_rfl
theorem fok42 : M.fnOk Tryz.f42 = true := by kernel_rfl
theorem fok43 : M.fnOk Tryz.f43 = true := by kernel_rfl
theorem fok44 : M.fnOk Tryz.f44 = true := by kernel_rfl
theorem fok45 : M.fnOk Tryz.f45 = true := by kernel_rfl
theorem fok46 : M.fnOk Tryz.f46 = true := by kernel_rfl
theorem fok47 : M.fnOk Tryz.f47 = true := by kernel_rfl
theorem fok48 : M.fnOk Tryz.f48 = true := by kernel_rfl
theorem fok49 : M.fnOk Tryz.f49 = true := by kernel_rfl
theorem fok50 : M.fnOk Tryz.f50 = true := by kernel_rfl
theorem fok51 : M.fnOk Tryz.f51 = true := by kernel_rfl
theorem fok52 : M.fnOk Tryz.f52 = true := by kernel_rfl
theorem fok53 : M.fnOk Tryz.f53 = true := by kernel_rfl
theorem fok54 : M.fnOk Tryz.f54 = true := by kernel_rfl
theorem fok55 : M.fnOk Tryz.f55 = true := by kernel_rfl
theorem fok56 : M.fnOk Tryz.f56 = true := by kernel_rfl
theorem fok57 : M.fnOk Tryz.f57 = true := by kernel_rfl
theorem fok58 : M.fnOk Tryz.f58 = true := by kernel_rfl
theorem fok59 : M.fnOk Tryz.f59 = true := by kernel_rfl
theorem fok60 : M.fnOk Tryz.f60 = true := by kernel_rfl
theorem fok61 : M.fnOk Tryz.f61 = true := by kernel_rfl
theorem fok62 : M.fnOk Tryz.f62 = true := by kernel_rfl
theorem fok63 : M.fnOk Tryz.f63 = true := by kernel_rfl
theorem fok64 : M.fnOk Tryz.f64 = true := by kernel_rfl
theorem fok65 : M.fnOk Tryz.f65 = true := by kernel_rfl
theorem fok66 : M.fnOk Tryz.f66 = true := by kernel_rfl
theorem fok67 : M.fnOk Tryz.f67 = true := by kernel_rfl
theorem fok68 : M.fnOk Tryz.f68 = true := by kernel_rfl
theorem fok69 : M.fnOk Tryz.f69 = true := by kernel_rfl
theorem fok70 : M.fnOk Tryz.f70 = true := by kernel_rfl
theorem fok71 : M.fnOk Tryz.f71 = true := by kernel_rfl
theorem fok72 : M.fnOk Tryz.f72 = true := by kernel_rfl
theorem fok73 : M.fnOk Tryz.f73 = true := by kernel_rfl
theorem fok74 : M.fnOk Tryz.f74 = true := by kernel_rfl
theorem fok75 : M.fnOk Tryz.f75 = true := by kernel_rfl
theorem fok76 : M.fnOk Tryz.f76 = true := by kernel_rfl
theorem fok77 : M.fnOk Tryz.f77 = true := by kernel_rfl
theorem fok78 : M.fnOk Tryz.f78 = true := by kernel_rfl
theorem fok79 : M.fnOk Tryz.f79 = true := by kernel_rfl
theorem fok80 : M.fnOk Tryz.f80 = true := by kernel_rfl
theorem fok81 : M.fnOk Tryz.f81 = true := by kernel_rfl
theorem fok82 : M.fnOk Tryz.f82 = true := by kernel_rfl
theorem fok83 : M.fnOk Tryz.f83 = true := by kernel_rfl
theorem fok84 : M.fnOk Tryz.f84 = true := by kernel_rfl
theorem fok85 : M.fnOk Tryz.f85 = true := by kernel_rfl
theorem fok86 : M.fnOk Tryz.f86 = true := by kernel_rfl
theorem fok87 : M.fnOk Tryz.f87 = true := by kernel_rfl
theorem fok88 : M.fnOk Tryz.f88 = true := by kernel_rfl
theorem fok89 : M.fnOk Tryz.f89 = true := by kernel_rfl
theorem fok90 : M.fnOk Tryz.f90 = true := by kernel_rfl
theorem fok91 : M.fnOk Tryz.f91 = true := by kernel_rfl
theorem fok92 : M.fnOk Tryz.f92 = true := by kernel_rfl
theorem fok93 : M.fnOk Tryz.f93 = true := by kernel_rfl
theorem fok94 : M.fnOk Tryz.f94 = true := by kernel_rfl
theorem fok95 : M.fnOk Tryz.f95 = true := by kernel_rfl
theorem fok96 : M.fnOk Tryz.f96 = true := by kernel_rfl
theorem fok97 : M.fnOk Tryz.f97 = true := by kernel_rfl
theorem fok98 : M.fnOk Tryz.f98 = true := by kernel_rfl
theorem fok99 : M.fnOk Tryz.f99 = true := by kernel_rfl
theorem fok100 : M.fnOk Tryz.f100 = true := by kernel_rfl
theorem fok101 : M.fnOk Tryz.f101 = true := by kernel_rfl
theorem fok102 : M.fnOk Tryz.f102 = true := by kernel_rfl
theorem fok103 : M.fnOk Tryz.f103 = true := by kernel_rfl
theorem fok104 : M.fnOk Tryz.f104 = true := by kernel_rfl
theorem fok105 : M.fnOk Tryz.f105 = true := by kernel_rfl
theorem fok106 : M.fnOk Tryz.f106 = true := by kernel_rfl
theorem fok107 : M.fnOk Tryz.f107 = true := by kernel_rfl
theorem fok108 : M.fnOk Tryz.f108 = true := by kernel_rfl
theorem fok109 : M.fnOk Tryz.f109 = true := by kernel_rfl
theorem fok110 : M.fnOk Tryz.f110 = true := by kernel_rfl
theorem fok111 : M.fnOk Tryz.f111 = true := by kernel_rfl
theorem fok112 : M.fnOk Tryz.f112 = true := by kernel_rfl
theorem fok113 : M.fnOk Tryz.f113 = true := by kernel_rfl
theorem fok114 : M.fnOk Tryz.f114 = true := by kernel_rfl
theorem fok115 : M.fnOk Tryz.f115 = true := by kernel_rfl
theorem fok116 : M.fnOk Tryz.f116 = true := by kernel_rfl
theorem fok117 : M.fnOk Tryz.f117 = true := by kernel_rfl
theorem fok118 : M.fnOk Tryz.f118 = true := by kernel_rfl
theorem fok119 : M.fnOk Tryz.f119 = true := by kernel_rfl
theorem fok120 : M.fnOk Tryz.f120 = true := by kernel_rfl
theorem fok121 : M.fnOk Tryz.f121 = true := by kernel_rfl
theorem fok122 : M.fnOk Tryz.f122 = true := by kernel_rfl
theorem fok123 : M.fnOk Tryz.f123 = true := by kernel_rfl
theorem fok124 : M.fnOk Tryz.f124 = true := by kernel_rfl
theorem fok125 : M.fnOk Tryz.f125 = true := by kernel_rfl
theorem fok126 : M.fnOk Tryz.f126 = true := by kernel_rfl
theorem fok127 : M.fnOk Tryz.f127 = true := by kernel_rfl
theorem fok128 : M.fnOk Tryz.f128 = true := by kernel_rfl
theorem fok129 : M.fnOk Tryz.f129 = true := by kernel_rfl
theorem fok130 : M.fnOk Tryz.f130 = true := by kernel_rfl
theorem fok131 : M.fnOk Tryz.f131 = true := by kernel_rfl
theorem fok132 : M.fnOk Tryz.f132 = true := by kernel_rfl
theorem fok133 : M.fnOk Tryz.f133 = true := by kernel_rfl
theorem fok134 : M.fnOk Tryz.f134 = true := by kernel_rfl
theorem fok135 : M.fnOk Tryz.f135 = true := by kernel_rfl
theorem fok136 : M.fnOk Tryz.f136 = true := by kernel_rfl
theorem fok137 : M.fnOk Tryz.f137 = true := by kernel_rfl
theorem fok138 : M.fnOk Tryz.f138 = true := by kernel_rfl
theorem fok139 : M.fnOk Tryz.f139 = true := by kernel_rfl
theorem fok140 : M.fnOk Tryz.f140 = true := by kernel_rfl
theorem fok141 : M.fnOk Tryz.f141 = true := by kernel_rfl
theorem fok142 : M.fnOk Tryz.f142 = true := by kernel_rfl
theorem fok143 : M.fnOk Tryz.f143 = true := by kernel_rfl
theorem fok144 : M.fnOk Tryz.f144 = true := by kernel_rfl
theorem fok145 : M.fnOk Tryz.f145 = true := by kernel_rfl
theorem fok146 : M.fnOk Tryz.f146 = true := by kernel_rfl
theorem fok147 : M.fnOk Tryz.f147 = true := by kernel_rfl
theorem fok148 : M.fnOk Tryz.f148 = true := by kernel_rfl
theorem fok149 : M.fnOk Tryz.f149 = true := by kernel_rfl
theorem fok150 : M.fnOk Tryz.f150 = true := by kernel_rfl
theorem fok151 : M.fnOk Tryz.f151 = true := by kernel_rfl
theorem fok152 : M.fnOk Tryz.f152 = true := by kernel_rfl
theorem fok153 : M.fnOk Tryz.f153 = true := by kernel_rfl
theorem fok154 : M.fnOk Tryz.f154 = true := by kernel_rfl
theorem fok155 : M.fnOk Tryz.f155 = true := by kernel_rfl
theorem fok156 : M.fnOk Tryz.f156 = true := by kernel_rfl
theorem fok157 : M.fnOk Tryz.f157 = true := by kernel_rfl
theorem fok158 : M.fnOk Tryz.f158 = true := by kernel_rfl
theorem fok159 : M.fnOk Tryz.f159 = true := by kernel_rfl
theorem fok160 : M.fnOk Tryz.f160 = true := by kernel_rfl
theorem fok161 : M.fnOk Tryz.f161 = true := by kernel_rfl
theorem fok162 : M.fnOk Tryz.f162 = true := by kernel_rfl
theorem fok163 : M.fnOk Tryz.f163 = true := by kernel_rfl
theorem fok164 : M.fnOk Tryz.f164 = true := by kernel_rfl
theorem fok165 : M.fnOk Tryz.f165 = true := by kernel_rfl
theorem fok166 : M.fnOk Tryz.f166 = true := by kernel_rfl
theorem fok167 : M.fnOk Tryz.f167 = true := by kernel_rfl
theorem fok168 : M.fnOk Tryz.f168 = true := by kernel_rfl
theorem fok169 : M.fnOk Tryz.f169 = true := by kernel_rfl
theorem fok170 : M.fnOk Tryz.f170 = true := by kernel_rfl
theorem fok171 : M.fnOk Tryz.f171 = true := by kernel_rfl
theorem fok172 : M.fnOk Tryz.f172 = true := by kernel_rfl
theorem fok173 : M.fnOk Tryz.f173 = true := by kernel_rfl
theorem fok174 : M.fnOk Tryz.f174 = true := by kernel_rfl
theorem fok175 : M.fnOk Tryz.f175 = true := by kernel_rfl
theorem fok176 : M.fnOk Tryz.f176 = true := by kernel_rfl
theorem fok177 : M.fnOk Tryz.f177 = true := by kernel_rfl
theorem fok178 : M.fnOk Tryz.f178 = true := by kernel_rfl
theorem fok179 : M.fnOk Tryz.f179 = true := by kernel_rfl
theorem fok180 : M.fnOk Tryz.f180 = true := by kernel_rfl
theorem fok181 : M.fnOk Tryz.f181 = true := by kernel_rfl
theorem fok182 : M.fnOk Tryz.f182 = true := by kernel_rfl
theorem fok183 : M.fnOk Tryz.f183 = true := by kernel_rfl
theorem fok184 : M.fnOk Tryz.f184 = true := by kernel_rfl
theorem fok185 : M.fnOk Tryz.f185 = true := by kernel_rfl
theorem fok186 : M.fnOk Tryz.f186 = true := by kernel_rfl
theorem fok187 : M.fnOk Tryz.f187 = true := by kernel_rfl
theorem fok188 : M.fnOk Tryz.f188 = true := by kernel_rfl
theorem fok189 : M.fnOk Tryz.f189 = true := by kernel_rfl
theorem fok190 : M.fnOk Tryz.f190 = true := by kernel_rfl
theorem fok191 : M.fnOk Tryz.f191 = true := by kernel_rfl
theorem fok192 : M.fnOk Tryz.f192 = true := by kernel_rfl
theorem fok193 : M.fnOk Tryz.f193 = true := by kernel_rfl
theorem fok194 : M.fnOk Tryz.f194 = true := by kernel_rfl
theorem fok195 : M.fnOk Tryz.f195 = true := by kernel_rfl
theorem fok196 : M.fnOk Tryz.f196 = true := by kernel_rfl
theorem fok197 : M.fnOk Tryz.f197 = true := by kernel_rfl
theorem fok198 : M.fnOk Tryz.f198 = true := by kernel_rfl
theorem fok199 : M.fnOk Tryz.f199 = true := by kernel_rfl
theorem fok200 : M.fnOk Tryz.f200 = true := by kernel_rfl
theorem fok201 : M.fnOk Tryz.f201 = true := by kernel_rfl
theorem fok202 : M.fnOk Tryz.f202 = true := by kernel_rfl
theorem fok203 : M.fnOk Tryz.f203 = true := by kernel_rfl
theorem fok204 : M.fnOk Tryz.f204 = true := by kernel_rfl
theorem fok205 : M.fnOk Tryz.f205 = true := by kernel_rfl
theorem fok206 : M.fnOk Tryz.f206 = true := by kernel_rfl
theorem fok207 : M.fnOk Tryz.f207 = true := by kernel_rfl
theorem fok208 : M.fnOk Tryz.f208 = true := by kernel_rfl
theorem fok209 : M.fnOk Tryz.f209 = true := by kernel_rfl
theorem fok210 : M.fnOk Tryz.f210 = true := by kernel_rfl
theorem fok211 : M.fnOk Tryz.f211 = true := by kernel_rfl
theorem fok212 : M.fnOk Tryz.f212 = true := by kernel_rfl
theorem fok213 : M.fnOk Tryz.f213 = true := by kernel_rfl
theorem fok214 : M.fnOk Tryz.f214 = true := by kernel_rfl
theorem fok215 : M.fnOk Tryz.f215 = true := by kernel_rfl
theorem fok216 : M.fnOk Tryz.f216 = true := by kernel_rfl
theorem fok217 : M.fnOk Tryz.f217 = true := by kernel_rfl
theorem fok218 : M.fnOk Tryz.f218 = true := by kernel_rfl
theorem fok219 : M.fnOk Tryz.f219 = true := by kernel_rfl
theorem fok220 : M.fnOk Tryz.f220 = true := by kernel_rfl
theorem fok221 : M.fnOk Tryz.f221 = true := by kernel_rfl
theorem fok222 : M.fnOk Tryz.f222 = true := by kernel_rfl
theorem fok223 : M.fnOk Tryz.f223 = true := by kernel_rfl
theorem fok224 : M.fnOk Tryz.f224 = true := by kernel_rfl
theorem fok225 : M.fnOk Tryz.f225 = true := by kernel_rfl
theorem fok226 : M.fnOk Tryz.f226 = true := by kernel_rfl
theorem fok227 : M.fnOk Tryz.f227 = true := by kernel_rfl
theorem fok228 : M.fnOk Tryz.f228 = true := by kernel_rfl
theorem fok229 : M.fnOk Tryz.f229 = true := by kernel_rfl
theorem fok230 : M.fnOk Tryz.f230 = true := by kernel_rfl
theorem fok231 : M.fnOk Tryz.f231 = true := by kernel_rfl
theorem fok232 : M.fnOk Tryz.f232 = true := by kernel_rfl
theorem fok233 : M.fnOk Tryz.f233 = true := by kernel_rfl
theorem fok234 : M.fnOk Tryz.f234 = true := by kernel_rfl
theorem fok235 : M.fnOk Tryz.f235 = true := by kernel_rfl
theorem fok236 : M.fnOk Tryz.f236 = true := by kernel_rfl
theorem fok237 : M.fnOk Tryz.f237 = true := by kernel_rfl
theorem fok238 : M.fnOk Tryz.f238 = true := by kernel_rfl
theorem fok239 : M.fnOk Tryz.f239 = true := by kernel_rfl
theorem fok240 : M.fnOk Tryz.f240 = true := by kernel_rfl
theorem fok241 : M.fnOk Tryz.f241 = true := by kernel_rfl
theorem fok242 : M.fnOk Tryz.f242 = true := by kernel_rfl
theorem fok243 : M.fnOk Tryz.f243 = true := by kernel_rfl
theorem fok244 : M.fnOk Tryz.f244 = true := by kernel_rfl
theorem fok245 : M.fnOk Tryz.f245 = true := by kernel_rfl
theorem fok246 : M.fnOk Tryz.f246 = true := by kernel_rfl
theorem fok247 : M.fnOk Tryz.f247 = true := by kernel_rfl
theorem fok248 : M.fnOk Tryz.f248 = true := by kernel_rfl
theorem fok249 : M.fnOk Tryz.f249 = true := by kernel_rfl
theorem fok250 : M.fnOk Tryz.f250 = true := by kernel_rfl
theorem fok251 : M.fnOk Tryz.f251 = true := by kernel_rfl
theorem fok252 : M.fnOk Tryz.f252 = true := by kernel_rfl
theorem fok253 : M.fnOk Tryz.f253 = true := by kernel_rfl
theorem fok254 : M.fnOk Tryz.f254 = true := by kernel_rfl
theorem fok255 : M.fnOk Tryz.f255 = true := by kernel_rfl
theorem fok256 : M.fnOk Tryz.f256 = true := by kernel_rfl
theorem fok257 : M.fnOk Tryz.f257 = true := by kernel_rfl
theorem fok258 : M.fnOk Tryz.f258 = true := by kernel_rfl
theorem fok259 : M.fnOk Tryz.f259 = true := by kernel_rfl
theorem fok260 : M.fnOk Tryz.f260 = true := by kernel_rfl
theorem fok261 : M.fnOk Tryz.f261 = true := by kernel_rfl
theorem fok262 : M.fnOk Tryz.f262 = true := by kernel_rfl
theorem fok263 : M.fnOk Tryz.f263 = true := by kernel_rfl
theorem fok264 : M.fnOk Tryz.f264 = true := by kernel_rfl
theorem fok265 : M.fnOk Tryz.f265 = true := by kernel_rfl
theorem fok266 : M.fnOk Tryz.f266 = true := by kernel_rfl
theorem fok267 : M.fnOk Tryz.f267 = true := by kernel_rfl
theorem fok268 : M.fnOk Tryz.f268 = true := by kernel_rfl
theorem fok269 : M.fnOk Tryz.f269 = true := by kernel_rfl
theorem fok270 : M.fnOk Tryz.f270 = true := by kernel_rfl
theorem fok271 : M.fnOk Tryz.f271 = true := by kernel_rfl
theorem fok272 : M.fnOk Tryz.f272 = true := by kernel_rfl
theorem fok273 : M.fnOk Tryz.f273 = true := by kernel_rfl
theorem fok274 : M.fnOk Tryz.f274 = true := by kernel_rfl
theorem fok275 : M.fnOk Tryz.f275 = true := by kernel_rfl
theorem fok276 : M.fnOk Tryz.f276 = true := by kernel_rfl
theorem fok277 : M.fnOk Tryz.f277 = true := by kernel_rfl
theorem fok278 : M.fnOk Tryz.f278 = true := by kernel_rfl
theorem fok279 : M.fnOk Tryz.f279 = true := by kernel_rfl
theorem fok280 : M.fnOk Tryz.f280 = true := by kernel_rfl
theorem fok281 : M.fnOk Tryz.f281 = true := by kernel_rfl
theorem fok282 : M.fnOk Tryz.f282 = true := by kernel_rfl
theorem fok283 : M.fnOk Tryz.f283 = true := by kernel_rfl
theorem fok284 : M.fnOk Tryz.f284 = true := by kernel_rfl
theorem fok285 : M.fnOk Tryz.f285 = true := by kernel_rfl
theorem fok286 : M.fnOk Tryz.f286 = true := by kernel_rfl
theorem fok287 : M.fnOk Tryz.f287 = true := by kernel_rfl
theorem fok288 : M.fnOk Tryz.f288 = true := by kernel_rfl
theorem fok289 : M.fnOk Tryz.f289 = true := by kernel_rfl
theorem fok290 : M.fnOk Tryz.f290 = true := by kernel_rfl
theorem fok291 : M.fnOk Tryz.f291 = true := by kernel_rfl
theorem fok292 : M.fnOk Tryz.f292 = true := by kernel_rfl
theorem fok293 : M.fnOk Tryz.f293 = true := by kernel_rfl
theorem fok294 : M.fnOk Tryz.f294 = true := by kernel_rfl
theorem fok295 : M.fnOk Tryz.f295 = true := by kernel_rfl
theorem fok296 : M.fnOk Tryz.f296 = true := by kernel_rfl
theorem fok297 : M.fnOk Tryz.f297 = true := by kernel_rfl
theorem fok298 : M.fnOk Tryz.f298 = true := by kernel_rfl
theorem fok299 : M.fnOk Tryz.f299 = true := by kernel_rfl
theorem fok300 : M.fnOk Tryz.f300 = true := by kernel_rfl
theorem fok301 : M.fnOk Tryz.f301 = true := by kernel_rfl
theorem fok302 : M.fnOk Tryz.f302 = true := by kernel_rfl
theorem fok303 : M.fnOk Tryz.f303 = true := by kernel_rfl
theorem fok304 : M.fnOk Tryz.f304 = true := by kernel_rfl
theorem fok305 : M.fnOk Tryz.f305 = true := by kernel_rfl
theorem fok306 : M.fnOk Tryz.f306 = true := by kernel_rfl
theorem fok307 : M.fnOk Tryz.f307 = true := by kernel_rfl
theorem fok308 : M.fnOk Tryz.f308 = true := by kernel_rfl
theorem fok309 : M.fnOk Tryz.f309 = true := by kernel_rfl
theorem fok310 : M.fnOk Tryz.f310 = true := by kernel_rfl
theorem fok311 : M.fnOk Tryz.f311 = true := by kernel_rfl
theorem fok312 : M.fnOk Tryz.f312 = true := by kernel_rfl
theorem fok313 : M.fnOk Tryz.f313 = true := by kernel_rfl
theorem fok314 : M.fnOk Tryz.f314 = true := by kernel_rfl
theorem fok315 : M.fnOk Tryz.f315 = true := by kernel_rfl
theorem fok316 : M.fnOk Tryz.f316 = true := by kernel_rfl
theorem fok317 : M.fnOk Tryz.f317 = true := by kernel_rfl
theorem fok318 : M.fnOk Tryz.f318 = true := by kernel_rfl
theorem fok319 : M.fnOk Tryz.f319 = true := by kernel_rfl
theorem fok320 : M.fnOk Tryz.f320 = true := by kernel_rfl
theorem fok321 : M.fnOk Tryz.f321 = true := by kernel_rfl
theorem fok322 : M.fnOk Tryz.f322 = true := by kernel_rfl
theorem fok323 : M.fnOk Tryz.f323 = true := by kernel_rfl
theorem fok324 : M.fnOk Tryz.f324 = true := by kernel_rfl
theorem fok325 : M.fnOk Tryz.f325 = true := by kernel_rfl
theorem fok326 : M.fnOk Tryz.f326 = true := by kernel_rfl
theorem fok327 : M.fnOk Tryz.f327 = true := by kernel_rfl
theorem fok328 : M.fnOk Tryz.f328 = true := by kernel_rfl
theorem fok329 : M.fnOk Tryz.f329 = true := by kernel_rfl
theorem fok330 : M.fnOk Tryz.f330 = true := by kernel_rfl
theorem fok331 : M.fnOk Tryz.f331 = true := by kernel_rfl
theorem fok332 : M.fnOk Tryz.f332 = true := by kernel_rfl
theorem fok333 : M.fnOk Tryz.f333 = true := by kernel_rfl
theorem fok334 : M.fnOk Tryz.f334 = true := by kernel_rfl
theorem fok335 : M.fnOk Tryz.f335 = true := by kernel_rfl
theorem fok336 : M.fnOk Tryz.f336 = true := by kernel_rfl
theorem fok337 : M.fnOk Tryz.f337 = true := by kernel_rfl
theorem fok338 : M.fnOk Tryz.f338 = true := by kernel_rfl
theorem fok339 : M.fnOk Tryz.f339 = true := by kernel_rfl
theorem fok340 : M.fnOk Tryz.f340 = true := by kernel_rfl
theorem fok341 : M.fnOk Tryz.f341 = true := by kernel_rfl
theorem fok342 : M.fnOk Tryz.f342 = true := by kernel_rfl
theorem fok343 : M.fnOk Tryz.f343 = true := by kernel_rfl
theorem fok344 : M.fnOk Tryz.f344 = true := by kernel_rfl
theorem fok345 : M.fnOk Tryz.f345 = true := by kernel_rfl
theorem fok346 : M.fnOk Tryz.f346 = true := by kernel_rfl
theorem fok347 : M.fnOk Tryz.f347 = true := by kernel_rfl
theorem fok348 : M.fnOk Tryz.f348 = true := by kernel_rfl
theorem fok349 : M.fnOk Tryz.f349 = true := by kernel_rfl
theorem fok350 : M.fnOk Tryz.f350 = true := by kernel_rfl
theorem fok351 : M.fnOk Tryz.f351 = true := by kernel_rfl
theorem fok352 : M.fnOk Tryz.f352 = true := by kernel_rfl
theorem fok353 : M.fnOk Tryz.f353 = true := by kernel_rfl
theorem fok354 : M.fnOk Tryz.f354 = true := by kernel_rfl
theorem fok355 : M.fnOk Tryz.f355 = true := by kernel_rfl
theorem fok356 : M.fnOk Tryz.f356 = true := by kernel_rfl
theorem fok357 : M.fnOk Tryz.f357 = true := by kernel_rfl
theorem fnT_all : fnT.All (fun _ fn => M.fnOk fn = true) 0 := ⟨⟨⟨⟨⟨⟨⟨⟨fok0, fok1⟩, ⟨fok2, ⟨fok3, fok4⟩⟩⟩, ⟨⟨fok5, ⟨fok6, fok7⟩⟩, ⟨fok8, ⟨fok9, fok10⟩⟩⟩⟩, ⟨⟨⟨fok11, fok12⟩, ⟨fok13, ⟨fok14, fok15⟩⟩⟩, ⟨⟨fok16, ⟨fok17, fok18⟩⟩, ⟨fok19, ⟨fok20, fok21⟩⟩⟩⟩⟩, ⟨⟨⟨⟨fok22, fok23⟩, ⟨fok24, ⟨fok25, fok26⟩⟩⟩, ⟨⟨fok27, ⟨fok28, fok29⟩⟩, ⟨fok30, ⟨fok31, fok32⟩⟩⟩⟩, ⟨⟨⟨fok33, fok34⟩, ⟨fok35, ⟨fok36, fok37⟩⟩⟩, ⟨⟨fok38, ⟨fok39, fok40⟩⟩, ⟨fok41, ⟨fok42, fok43⟩⟩⟩⟩⟩⟩, ⟨⟨⟨⟨⟨fok44, fok45⟩, ⟨fok46, ⟨fok47, fok48⟩⟩⟩, ⟨⟨fok49, ⟨fok50, fok51⟩⟩, ⟨fok52, ⟨fok53, fok54⟩⟩⟩⟩, ⟨⟨⟨fok55, fok56⟩, ⟨fok57, ⟨fok58, fok59⟩⟩⟩, ⟨⟨fok60, ⟨fok61, fok62⟩⟩, ⟨fok63, ⟨fok64, fok65⟩⟩⟩⟩⟩, ⟨⟨⟨⟨fok66, fok67⟩, ⟨fok68, ⟨fok69, fok70⟩⟩⟩, ⟨⟨fok71, ⟨fok72, fok73⟩⟩, ⟨fok74, ⟨fok75, fok76⟩⟩⟩⟩, ⟨⟨⟨fok77, ⟨fok78, fok79⟩⟩, ⟨fok80, ⟨fok81, fok82⟩⟩⟩, ⟨⟨fok83, ⟨fok84, fok85⟩⟩, ⟨fok86, ⟨fok87, fok88⟩⟩⟩⟩⟩⟩⟩, ⟨⟨⟨⟨⟨⟨fok89, fok90⟩, ⟨fok91, ⟨fok92, fok93⟩⟩⟩, ⟨⟨fok94, ⟨fok95, fok96⟩⟩, ⟨fok97, ⟨fok98, fok99⟩⟩⟩⟩, ⟨⟨⟨fok100, fok101⟩, ⟨fok102, ⟨fok103, fok104⟩⟩⟩, ⟨⟨fok105, ⟨fok106, fok107⟩⟩, ⟨fok108, ⟨fok109, fok110⟩⟩⟩⟩⟩, ⟨⟨⟨⟨fok111, fok112⟩, ⟨fok113, ⟨fok114, fok115⟩⟩⟩, ⟨⟨fok116, ⟨fok117, fok118⟩⟩, ⟨fok119, ⟨fok120, fok121⟩⟩⟩⟩, ⟨⟨⟨fok122, ⟨fok123, fok124⟩⟩, ⟨fok125, ⟨fok126, fok127⟩⟩⟩, ⟨⟨fok128, ⟨fok129, fok130⟩⟩, ⟨fok131, ⟨fok132, fok133⟩⟩⟩⟩⟩⟩, ⟨⟨⟨⟨⟨fok134, fok135⟩, ⟨fok136, ⟨fok137, fok138⟩⟩⟩, ⟨⟨fok139, ⟨fok140, fok141⟩⟩, ⟨fok142, ⟨fok143, fok144⟩⟩⟩⟩, ⟨⟨⟨fok145, fok146⟩, ⟨fok147, ⟨fok148, fok149⟩⟩⟩, ⟨⟨fok150, ⟨fok151, fok152⟩⟩, ⟨fok153, ⟨fok154, fok155⟩⟩⟩⟩⟩, ⟨⟨⟨⟨fok156, fok157⟩, ⟨fok158, ⟨fok159, fok160⟩⟩⟩, ⟨⟨fok161, ⟨fok162, fok163⟩⟩, ⟨fok164, ⟨fok165, fok166⟩⟩⟩⟩, ⟨⟨⟨fok167, ⟨fok168, fok169⟩⟩, ⟨fok170, ⟨fok171, fok172⟩⟩⟩, ⟨⟨fok173, ⟨fok174, fok175⟩⟩, ⟨fok176, ⟨fok177, fok178⟩⟩⟩⟩⟩⟩⟩⟩, ⟨⟨⟨⟨⟨⟨⟨fok179, fok180⟩, ⟨fok181, ⟨fok182, fok183⟩⟩⟩, ⟨⟨fok184, ⟨fok185, fok186⟩⟩, ⟨fok187, ⟨fok188, fok189⟩⟩⟩⟩, ⟨⟨⟨fok190, fok191⟩, ⟨fok192, ⟨fok193, fok194⟩⟩⟩, ⟨⟨fok195, ⟨fok196, fok197⟩⟩, ⟨fok198, ⟨fok199, fok200⟩⟩⟩⟩⟩, ⟨⟨⟨⟨fok201, fok202⟩, ⟨fok203, ⟨fok204, fok205⟩⟩⟩, ⟨⟨fok206, ⟨fok207, fok208⟩⟩, ⟨fok209, ⟨fok210, fok211⟩⟩⟩⟩, ⟨⟨⟨fok212, fok213⟩, ⟨fok214, ⟨fok215, fok216⟩⟩⟩, ⟨⟨fok217, ⟨fok218, fok219⟩⟩, ⟨fok220, ⟨fok221, fok222⟩⟩⟩⟩⟩⟩, ⟨⟨⟨⟨⟨fok223, fok224⟩, ⟨fok225, ⟨fok226, fok227⟩⟩⟩, ⟨⟨fok228, ⟨fok229, fok230⟩⟩, ⟨fok231, ⟨fok232, fok233⟩⟩⟩⟩, ⟨⟨⟨fok234, fok235⟩, ⟨fok236, ⟨fok237, fok238⟩⟩⟩, ⟨⟨fok239, ⟨fok240, fok241⟩⟩, ⟨fok242, ⟨fok243, fok244⟩⟩⟩⟩⟩, ⟨⟨⟨⟨fok245, fok246⟩, ⟨fok247, ⟨fok248, fok249⟩⟩⟩, ⟨⟨fok250, ⟨fok251, fok252⟩⟩, ⟨fok253, ⟨fok254, fok255⟩⟩⟩⟩, ⟨⟨⟨fok256, ⟨fok257, fok258⟩⟩, ⟨fok259, ⟨fok260, fok261⟩⟩⟩, ⟨⟨fok262, ⟨fok263, fok264⟩⟩, ⟨fok265, ⟨fok266, fok267⟩⟩⟩⟩⟩⟩⟩, ⟨⟨⟨⟨⟨⟨fok268, fok269⟩, ⟨fok270, ⟨fok271, fok272⟩⟩⟩, ⟨⟨fok273, ⟨fok274, fok275⟩⟩, ⟨fok276, ⟨fok277, fok278⟩⟩⟩⟩, ⟨⟨⟨fok279, fok280⟩, ⟨fok281, ⟨fok282, fok283⟩⟩⟩, ⟨⟨fok284, ⟨fok285, fok286⟩⟩, ⟨fok287, ⟨fok288, fok289⟩⟩⟩⟩⟩, ⟨⟨⟨⟨fok290, fok291⟩, ⟨fok292, ⟨fok293, fok294⟩⟩⟩, ⟨⟨fok295, ⟨fok296, fok297⟩⟩, ⟨fok298, ⟨fok299, fok300⟩⟩⟩⟩, ⟨⟨⟨fok301, ⟨fok302, fok303⟩⟩, ⟨fok304, ⟨fok305, fok306⟩⟩⟩, ⟨⟨fok307, ⟨fok308, fok309⟩⟩, ⟨fok310, ⟨fok311, fok312⟩⟩⟩⟩⟩⟩, ⟨⟨⟨⟨⟨fok313, fok314⟩, ⟨fok315, ⟨fok316, fok317⟩⟩⟩, ⟨⟨fok318, ⟨fok319, fok320⟩⟩, ⟨fok321, ⟨fok322, fok323⟩⟩⟩⟩, ⟨⟨⟨fok324, fok325⟩, ⟨fok326, ⟨fok327, fok328⟩⟩⟩, ⟨⟨fok329, ⟨fok330, fok331⟩⟩, ⟨fok332, ⟨fok333, fok334⟩⟩⟩⟩⟩, ⟨⟨⟨⟨fok335, fok336⟩, ⟨fok337, ⟨fok338, fok339⟩⟩⟩, ⟨⟨fok340, ⟨fok341, fok342⟩⟩, ⟨fok343, ⟨fok344, fok345⟩⟩⟩⟩, ⟨⟨⟨fok346, ⟨fok347, fok348⟩⟩, ⟨fok349, ⟨fok350, fok351⟩⟩⟩, ⟨⟨fok352, ⟨fok353, fok354⟩⟩, ⟨fok355, ⟨fok356, fok357⟩⟩⟩⟩⟩⟩⟩⟩⟩
end Go.Proofs.YteaifkpmfbgekaaGreatDoor
