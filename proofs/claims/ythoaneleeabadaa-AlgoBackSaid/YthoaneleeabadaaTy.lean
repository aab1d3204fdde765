/-
  Facts on the types of the translation: cells, info. No condition.
-/
import Derived.Test.YthoaneleeabadaaProg
import Derived.Test.YthoaneleeabadaaSxS
namespace Go.Proofs.Ythoaneleeabadaa
open Go.Sx
set_option maxRecDepth 100000
@[simp] theorem cellsOf0 : Try.prog.cellsOf 0 = 1 := by kernel_rfl
@[simp] theorem info0 : Try.prog.info? 0 = some Try.t0 := by kernel_rfl
@[simp] theorem cellsOf1 : Try.prog.cellsOf 1 = 1 := by kernel_rfl
@[simp] theorem info1 : Try.prog.info? 1 = some Try.t1 := by kernel_rfl
@[simp] theorem zok1 : zeroOk Try.prog 1 := zok_mk info1 rfl
@[simp] theorem cellsOf2 : Try.prog.cellsOf 2 = 1 := by kernel_rfl
@[simp] theorem info2 : Try.prog.info? 2 = some Try.t2 := by kernel_rfl
@[simp] theorem zok2 : zeroOk Try.prog 2 := zok_mk info2 rfl
@[simp] theorem cellsOf3 : Try.prog.cellsOf 3 = 1 := by kernel_rfl
@[simp] theorem info3 : Try.prog.info? 3 = some Try.t3 := by kernel_rfl
@[simp] theorem zok3 : zeroOk Try.prog 3 := zok_mk info3 rfl
@[simp] theorem cellsOf4 : Try.prog.cellsOf 4 = 1 := by kernel_rfl
@[simp] theorem info4 : Try.prog.info? 4 = some Try.t4 := by kernel_rfl
@[simp] theorem zok4 : zeroOk Try.prog 4 := zok_mk info4 rfl
@[simp] theorem cellsOf5 : Try.prog.cellsOf 5 = 1 := by kernel_rfl
@[simp] theorem info5 : Try.prog.info? 5 = some Try.t5 := by kernel_rfl
@[simp] theorem zok5 : zeroOk Try.prog 5 := zok_mk info5 rfl
@[simp] theorem cellsOf6 : Try.prog.cellsOf 6 = 1 := by kernel_rfl
@[simp] theorem info6 : Try.prog.info? 6 = some Try.t6 := by kernel_rfl
@[simp] theorem zok6 : zeroOk Try.prog 6 := zok_mk info6 rfl
@[simp] theorem cellsOf7 : Try.prog.cellsOf 7 = 4 := by kernel_rfl
@[simp] theorem info7 : Try.prog.info? 7 = some Try.t7 := by kernel_rfl
@[simp] theorem zok7 : zeroOk Try.prog 7 := zok_mk info7 rfl
@[simp] theorem cellsOf8 : Try.prog.cellsOf 8 = 4 := by kernel_rfl
@[simp] theorem info8 : Try.prog.info? 8 = some Try.t8 := by kernel_rfl
@[simp] theorem zok8 : zeroOk Try.prog 8 := zok_mk info8 rfl
@[simp] theorem cellsOf9 : Try.prog.cellsOf 9 = 1 := by kernel_rfl
@[simp] theorem info9 : Try.prog.info? 9 = some Try.t9 := by kernel_rfl
@[simp] theorem zok9 : zeroOk Try.prog 9 := zok_mk info9 rfl
@[simp] theorem cellsOf10 : Try.prog.cellsOf 10 = 1 := by kernel_rfl
@[simp] theorem info10 : Try.prog.info? 10 = some Try.t10 := by kernel_rfl
@[simp] theorem zok10 : zeroOk Try.prog 10 := zok_mk info10 rfl
@[simp] theorem cellsOf11 : Try.prog.cellsOf 11 = 1 := by kernel_rfl
@[simp] theorem info11 : Try.prog.info? 11 = some Try.t11 := by kernel_rfl
@[simp] theorem zok11 : zeroOk Try.prog 11 := zok_mk info11 rfl
@[simp] theorem cellsOf12 : Try.prog.cellsOf 12 = 1 := by kernel_rfl
@[simp] theorem info12 : Try.prog.info? 12 = some Try.t12 := by kernel_rfl
@[simp] theorem zok12 : zeroOk Try.prog 12 := zok_mk info12 rfl
@[simp] theorem cellsOf13 : Try.prog.cellsOf 13 = 2 := by kernel_rfl
@[simp] theorem info13 : Try.prog.info? 13 = some Try.t13 := by kernel_rfl
@[simp] theorem zok13 : zeroOk Try.prog 13 := zok_mk info13 rfl
@[simp] theorem cellsOf14 : Try.prog.cellsOf 14 = 2 := by kernel_rfl
@[simp] theorem info14 : Try.prog.info? 14 = some Try.t14 := by kernel_rfl
@[simp] theorem zok14 : zeroOk Try.prog 14 := zok_mk info14 rfl
@[simp] theorem cellsOf15 : Try.prog.cellsOf 15 = 1 := by kernel_rfl
@[simp] theorem info15 : Try.prog.info? 15 = some Try.t15 := by kernel_rfl
@[simp] theorem zok15 : zeroOk Try.prog 15 := zok_mk info15 rfl
@[simp] theorem cellsOf16 : Try.prog.cellsOf 16 = 1 := by kernel_rfl
@[simp] theorem info16 : Try.prog.info? 16 = some Try.t16 := by kernel_rfl
@[simp] theorem zok16 : zeroOk Try.prog 16 := zok_mk info16 rfl
@[simp] theorem cellsOf17 : Try.prog.cellsOf 17 = 1 := by kernel_rfl
@[simp] theorem info17 : Try.prog.info? 17 = some Try.t17 := by kernel_rfl
@[simp] theorem zok17 : zeroOk Try.prog 17 := zok_mk info17 rfl
@[simp] theorem cellsOf18 : Try.prog.cellsOf 18 = 1 := by kernel_rfl
@[simp] theorem info18 : Try.prog.info? 18 = some Try.t18 := by kernel_rfl
@[simp] theorem zok18 : zeroOk Try.prog 18 := zok_mk info18 rfl
@[simp] theorem cellsOf19 : Try.prog.cellsOf 19 = 1 := by kernel_rfl
@[simp] theorem info19 : Try.prog.info? 19 = some Try.t19 := by kernel_rfl
@[simp] theorem zok19 : zeroOk Try.prog 19 := zok_mk info19 rfl
@[simp] theorem cellsOf20 : Try.prog.cellsOf 20 = 1 := by kernel_rfl
@[simp] theorem info20 : Try.prog.info? 20 = some Try.t20 := by kernel_rfl
@[simp] theorem zok20 : zeroOk Try.prog 20 := zok_mk info20 rfl
@[simp] theorem cellsOf21 : Try.prog.cellsOf 21 = 1 := by kernel_rfl
@[simp] theorem info21 : Try.prog.info? 21 = some Try.t21 := by kernel_rfl
@[simp] theorem zok21 : zeroOk Try.prog 21 := zok_mk info21 rfl
@[simp] theorem cellsOf22 : Try.prog.cellsOf 22 = 1 := by kernel_rfl
@[simp] theorem info22 : Try.prog.info? 22 = some Try.t22 := by kernel_rfl
@[simp] theorem zok22 : zeroOk Try.prog 22 := zok_mk info22 rfl
@[simp] theorem cellsOf23 : Try.prog.cellsOf 23 = 1 := by kernel_rfl
@[simp] theorem info23 : Try.prog.info? 23 = some Try.t23 := by kernel_rfl
@[simp] theorem zok23 : zeroOk Try.prog 23 := zok_mk info23 rfl
@[simp] theorem cellsOf24 : Try.prog.cellsOf 24 = 1 := by kernel_rfl
@[simp] theorem info24 : Try.prog.info? 24 = some Try.t24 := by kernel_rfl
@[simp] theorem zok24 : zeroOk Try.prog 24 := zok_mk info24 rfl
@[simp] theorem cellsOf25 : Try.prog.cellsOf 25 = 1 := by kernel_rfl
@[simp] theorem info25 : Try.prog.info? 25 = some Try.t25 := by kernel_rfl
@[simp] theorem zok25 : zeroOk Try.prog 25 := zok_mk info25 rfl
@[simp] theorem cellsOf26 : Try.prog.cellsOf 26 = 1 := by kernel_rfl
@[simp] theorem info26 : Try.prog.info? 26 = some Try.t26 := by kernel_rfl
@[simp] theorem zok26 : zeroOk Try.prog 26 := zok_mk info26 rfl
@[simp] theorem cellsOf27 : Try.prog.cellsOf 27 = 1 := by kernel_rfl
@[simp] theorem info27 : Try.prog.info? 27 = some Try.t27 := by kernel_rfl
@[simp] theorem zok27 : zeroOk Try.prog 27 := zok_mk info27 rfl
@[simp] theorem cellsOf28 : Try.prog.cellsOf 28 = 3 := by kernel_rfl
@[simp] theorem info28 : Try.prog.info? 28 = some Try.t28 := by kernel_rfl
@[simp] theorem zok28 : zeroOk Try.prog 28 := zok_mk info28 rfl
@[simp] theorem cellsOf29 : Try.prog.cellsOf 29 = 3 := by kernel_rfl
@[simp] theorem info29 : Try.prog.info? 29 = some Try.t29 := by kernel_rfl
@[simp] theorem zok29 : zeroOk Try.prog 29 := zok_mk info29 rfl
@[simp] theorem cellsOf30 : Try.prog.cellsOf 30 = 6 := by kernel_rfl
@[simp] theorem info30 : Try.prog.info? 30 = some Try.t30 := by kernel_rfl
@[simp] theorem zok30 : zeroOk Try.prog 30 := zok_mk info30 rfl
@[simp] theorem cellsOf31 : Try.prog.cellsOf 31 = 6 := by kernel_rfl
@[simp] theorem info31 : Try.prog.info? 31 = some Try.t31 := by kernel_rfl
@[simp] theorem zok31 : zeroOk Try.prog 31 := zok_mk info31 rfl
@[simp] theorem cellsOf32 : Try.prog.cellsOf 32 = 1 := by kernel_rfl
@[simp] theorem info32 : Try.prog.info? 32 = some Try.t32 := by kernel_rfl
@[simp] theorem zok32 : zeroOk Try.prog 32 := zok_mk info32 rfl
@[simp] theorem cellsOf33 : Try.prog.cellsOf 33 = 1 := by kernel_rfl
@[simp] theorem info33 : Try.prog.info? 33 = some Try.t33 := by kernel_rfl
@[simp] theorem zok33 : zeroOk Try.prog 33 := zok_mk info33 rfl
@[simp] theorem cellsOf34 : Try.prog.cellsOf 34 = 1 := by kernel_rfl
@[simp] theorem info34 : Try.prog.info? 34 = some Try.t34 := by kernel_rfl
@[simp] theorem zok34 : zeroOk Try.prog 34 := zok_mk info34 rfl
@[simp] theorem cellsOf35 : Try.prog.cellsOf 35 = 1 := by kernel_rfl
@[simp] theorem info35 : Try.prog.info? 35 = some Try.t35 := by kernel_rfl
@[simp] theorem zok35 : zeroOk Try.prog 35 := zok_mk info35 rfl
@[simp] theorem cellsOf36 : Try.prog.cellsOf 36 = 3 := by kernel_rfl
@[simp] theorem info36 : Try.prog.info? 36 = some Try.t36 := by kernel_rfl
@[simp] theorem zok36 : zeroOk Try.prog 36 := zok_mk info36 rfl
@[simp] theorem cellsOf37 : Try.prog.cellsOf 37 = 1 := by kernel_rfl
@[simp] theorem info37 : Try.prog.info? 37 = some Try.t37 := by kernel_rfl
@[simp] theorem zok37 : zeroOk Try.prog 37 := zok_mk info37 rfl
@[simp] theorem cellsOf38 : Try.prog.cellsOf 38 = 1 := by kernel_rfl
@[simp] theorem info38 : Try.prog.info? 38 = some Try.t38 := by kernel_rfl
@[simp] theorem zok38 : zeroOk Try.prog 38 := zok_mk info38 rfl
@[simp] theorem cellsOf39 : Try.prog.cellsOf 39 = 1 := by kernel_rfl
@[simp] theorem info39 : Try.prog.info? 39 = some Try.t39 := by kernel_rfl
@[simp] theorem zok39 : zeroOk Try.prog 39 := zok_mk info39 rfl
@[simp] theorem cellsOf40 : Try.prog.cellsOf 40 = 1 := by kernel_rfl
@[simp] theorem info40 : Try.prog.info? 40 = some Try.t40 := by kernel_rfl
@[simp] theorem zok40 : zeroOk Try.prog 40 := zok_mk info40 rfl
@[simp] theorem cellsOf41 : Try.prog.cellsOf 41 = 1 := by kernel_rfl
@[simp] theorem info41 : Try.prog.info? 41 = some Try.t41 := by kernel_rfl
@[simp] theorem zok41 : zeroOk Try.prog 41 := zok_mk info41 rfl
@[simp] theorem cellsOf42 : Try.prog.cellsOf 42 = 1 := by kernel_rfl
@[simp] theorem info42 : Try.prog.info? 42 = some Try.t42 := by kernel_rfl
@[simp] theorem cellsOf43 : Try.prog.cellsOf 43 = 1 := by kernel_rfl
@[simp] theorem info43 : Try.prog.info? 43 = some Try.t43 := by kernel_rfl
@[simp] theorem zok43 : zeroOk Try.prog 43 := zok_mk info43 rfl
@[simp] theorem cellsOf44 : Try.prog.cellsOf 44 = 1 := by kernel_rfl
@[simp] theorem info44 : Try.prog.info? 44 = some Try.t44 := by kernel_rfl
@[simp] theorem cellsOf45 : Try.prog.cellsOf 45 = 1 := by kernel_rfl
@[simp] theorem info45 : Try.prog.info? 45 = some Try.t45 := by kernel_rfl
@[simp] theorem zok45 : zeroOk Try.prog 45 := zok_mk info45 rfl
@[simp] theorem cellsOf46 : Try.prog.cellsOf 46 = 1 := by kernel_rfl
@[simp] theorem info46 : Try.prog.info? 46 = some Try.t46 := by kernel_rfl
@[simp] theorem zok46 : zeroOk Try.prog 46 := zok_mk info46 rfl
@[simp] theorem cellsOf47 : Try.prog.cellsOf 47 = 1 := by kernel_rfl
@[simp] theorem info47 : Try.prog.info? 47 = some Try.t47 := by kernel_rfl
@[simp] theorem zok47 : zeroOk Try.prog 47 := zok_mk info47 rfl
@[simp] theorem cellsOf48 : Try.prog.cellsOf 48 = 1 := by kernel_rfl
@[simp] theorem info48 : Try.prog.info? 48 = some Try.t48 := by kernel_rfl
@[simp] theorem zok48 : zeroOk Try.prog 48 := zok_mk info48 rfl
@[simp] theorem cellsOf49 : Try.prog.cellsOf 49 = 2 := by kernel_rfl
@[simp] theorem info49 : Try.prog.info? 49 = some Try.t49 := by kernel_rfl
@[simp] theorem zok49 : zeroOk Try.prog 49 := zok_mk info49 rfl
@[simp] theorem cellsOf50 : Try.prog.cellsOf 50 = 2 := by kernel_rfl
@[simp] theorem info50 : Try.prog.info? 50 = some Try.t50 := by kernel_rfl
@[simp] theorem zok50 : zeroOk Try.prog 50 := zok_mk info50 rfl
@[simp] theorem cellsOf51 : Try.prog.cellsOf 51 = 1 := by kernel_rfl
@[simp] theorem info51 : Try.prog.info? 51 = some Try.t51 := by kernel_rfl
@[simp] theorem zok51 : zeroOk Try.prog 51 := zok_mk info51 rfl
@[simp] theorem cellsOf52 : Try.prog.cellsOf 52 = 1 := by kernel_rfl
@[simp] theorem info52 : Try.prog.info? 52 = some Try.t52 := by kernel_rfl
@[simp] theorem zok52 : zeroOk Try.prog 52 := zok_mk info52 rfl
@[simp] theorem cellsOf53 : Try.prog.cellsOf 53 = 1 := by kernel_rfl
@[simp] theorem info53 : Try.prog.info? 53 = some Try.t53 := by kernel_rfl
@[simp] theorem zok53 : zeroOk Try.prog 53 := zok_mk info53 rfl
@[simp] theorem cellsOf54 : Try.prog.cellsOf 54 = 1 := by kernel_rfl
@[simp] theorem info54 : Try.prog.info? 54 = some Try.t54 := by kernel_rfl
@[simp] theorem zok54 : zeroOk Try.prog 54 := zok_mk info54 rfl
@[simp] theorem cellsOf55 : Try.prog.cellsOf 55 = 1 := by kernel_rfl
@[simp] theorem info55 : Try.prog.info? 55 = some Try.t55 := by kernel_rfl
@[simp] theorem zok55 : zeroOk Try.prog 55 := zok_mk info55 rfl
@[simp] theorem cellsOf56 : Try.prog.cellsOf 56 = 1 := by kernel_rfl
@[simp] theorem info56 : Try.prog.info? 56 = some Try.t56 := by kernel_rfl
@[simp] theorem cellsOf57 : Try.prog.cellsOf 57 = 1 := by kernel_rfl
@[simp] theorem info57 : Try.prog.info? 57 = some Try.t57 := by kernel_rfl
@[simp] theorem zok57 : zeroOk Try.prog 57 := zok_mk info57 rfl
@[simp] theorem cellsOf58 : Try.prog.cellsOf 58 = 1 := by kernel_rfl
@[simp] theorem info58 : Try.prog.info? 58 = some Try.t58 := by kernel_rfl
@[simp] theorem cellsOf59 : Try.prog.cellsOf 59 = 1 := by kernel_rfl
@[simp] theorem info59 : Try.prog.info? 59 = some Try.t59 := by kernel_rfl
@[simp] theorem zok59 : zeroOk Try.prog 59 := zok_mk info59 rfl
@[simp] theorem cellsOf60 : Try.prog.cellsOf 60 = 1 := by kernel_rfl
@[simp] theorem info60 : Try.prog.info? 60 = some Try.t60 := by kernel_rfl
@[simp] theorem cellsOf61 : Try.prog.cellsOf 61 = 1 := by kernel_rfl
@[simp] theorem info61 : Try.prog.info? 61 = some Try.t61 := by kernel_rfl
@[simp] theorem zok61 : zeroOk Try.prog 61 := zok_mk info61 rfl
@[simp] theorem cellsOf62 : Try.prog.cellsOf 62 = 1 := by kernel_rfl
@[simp] theorem info62 : Try.prog.info? 62 = some Try.t62 := by kernel_rfl
@[simp] theorem zok62 : zeroOk Try.prog 62 := zok_mk info62 rfl
@[simp] theorem cellsOf63 : Try.prog.cellsOf 63 = 1 := by kernel_rfl
@[simp] theorem info63 : Try.prog.info? 63 = some Try.t63 := by kernel_rfl
@[simp] theorem zok63 : zeroOk Try.prog 63 := zok_mk info63 rfl
@[simp] theorem cellsOf64 : Try.prog.cellsOf 64 = 1 := by kernel_rfl
@[simp] theorem info64 : Try.prog.info? 64 = some Try.t64 := by kernel_rfl
@[simp] theorem zok64 : zeroOk Try.prog 64 := zok_mk info64 rfl
@[simp] theorem cellsOf65 : Try.prog.cellsOf 65 = 1 := by kernel_rfl
@[simp] theorem info65 : Try.prog.info? 65 = some Try.t65 := by kernel_rfl
@[simp] theorem zok65 : zeroOk Try.prog 65 := zok_mk info65 rfl
@[simp] theorem cellsOf66 : Try.prog.cellsOf 66 = 1 := by kernel_rfl
@[simp] theorem info66 : Try.prog.info? 66 = some Try.t66 := by kernel_rfl
@[simp] theorem cellsOf67 : Try.prog.cellsOf 67 = 1 := by kernel_rfl
@[simp] theorem info67 : Try.prog.info? 67 = some Try.t67 := by kernel_rfl
@[simp] theorem zok67 : zeroOk Try.prog 67 := zok_mk info67 rfl
@[simp] theorem cellsOf68 : Try.prog.cellsOf 68 = 1 := by kernel_rfl
@[simp] theorem info68 : Try.prog.info? 68 = some Try.t68 := by kernel_rfl
@[simp] theorem zok68 : zeroOk Try.prog 68 := zok_mk info68 rfl
@[simp] theorem cellsOf69 : Try.prog.cellsOf 69 = 1 := by kernel_rfl
@[simp] theorem info69 : Try.prog.info? 69 = some Try.t69 := by kernel_rfl
@[simp] theorem zok69 : zeroOk Try.prog 69 := zok_mk info69 rfl
@[simp] theorem cellsOf70 : Try.prog.cellsOf 70 = 1 := by kernel_rfl
@[simp] theorem info70 : Try.prog.info? 70 = some Try.t70 := by kernel_rfl
@[simp] theorem zok70 : zeroOk Try.prog 70 := zok_mk info70 rfl
@[simp] theorem cellsOf71 : Try.prog.cellsOf 71 = 1 := by kernel_rfl
@[simp] theorem info71 : Try.prog.info? 71 = some Try.t71 := by kernel_rfl
@[simp] theorem zok71 : zeroOk Try.prog 71 := zok_mk info71 rfl
@[simp] theorem cellsOf72 : Try.prog.cellsOf 72 = 1 := by kernel_rfl
@[simp] theorem info72 : Try.prog.info? 72 = some Try.t72 := by kernel_rfl
@[simp] theorem zok72 : zeroOk Try.prog 72 := zok_mk info72 rfl
@[simp] theorem cellsOf73 : Try.prog.cellsOf 73 = 1 := by kernel_rfl
@[simp] theorem info73 : Try.prog.info? 73 = some Try.t73 := by kernel_rfl
@[simp] theorem zok73 : zeroOk Try.prog 73 := zok_mk info73 rfl
@[simp] theorem cellsOf74 : Try.prog.cellsOf 74 = 1 := by kernel_rfl
@[simp] theorem info74 : Try.prog.info? 74 = some Try.t74 := by kernel_rfl
@[simp] theorem zok74 : zeroOk Try.prog 74 := zok_mk info74 rfl
@[simp] theorem cellsOf75 : Try.prog.cellsOf 75 = 1 := by kernel_rfl
@[simp] theorem info75 : Try.prog.info? 75 = some Try.t75 := by kernel_rfl
@[simp] theorem zok75 : zeroOk Try.prog 75 := zok_mk info75 rfl
@[simp] theorem cellsOf76 : Try.prog.cellsOf 76 = 2 := by kernel_rfl
@[simp] theorem info76 : Try.prog.info? 76 = some Try.t76 := by kernel_rfl
@[simp] theorem zok76 : zeroOk Try.prog 76 := zok_mk info76 rfl
@[simp] theorem cellsOf77 : Try.prog.cellsOf 77 = 2 := by kernel_rfl
@[simp] theorem info77 : Try.prog.info? 77 = some Try.t77 := by kernel_rfl
@[simp] theorem zok77 : zeroOk Try.prog 77 := zok_mk info77 rfl
@[simp] theorem cellsOf78 : Try.prog.cellsOf 78 = 1 := by kernel_rfl
@[simp] theorem info78 : Try.prog.info? 78 = some Try.t78 := by kernel_rfl
@[simp] theorem cellsOf79 : Try.prog.cellsOf 79 = 1 := by kernel_rfl
@[simp] theorem info79 : Try.prog.info? 79 = some Try.t79 := by kernel_rfl
@[simp] theorem zok79 : zeroOk Try.prog 79 := zok_mk info79 rfl
@[simp] theorem cellsOf80 : Try.prog.cellsOf 80 = 2 := by kernel_rfl
@[simp] theorem info80 : Try.prog.info? 80 = some Try.t80 := by kernel_rfl
@[simp] theorem zok80 : zeroOk Try.prog 80 := zok_mk info80 rfl
@[simp] theorem cellsOf81 : Try.prog.cellsOf 81 = 1 := by kernel_rfl
@[simp] theorem info81 : Try.prog.info? 81 = some Try.t81 := by kernel_rfl
@[simp] theorem cellsOf82 : Try.prog.cellsOf 82 = 1 := by kernel_rfl
@[simp] theorem info82 : Try.prog.info? 82 = some Try.t82 := by kernel_rfl
@[simp] theorem zok82 : zeroOk Try.prog 82 := zok_mk info82 rfl
@[simp] theorem cellsOf83 : Try.prog.cellsOf 83 = 3 := by kernel_rfl
@[simp] theorem info83 : Try.prog.info? 83 = some Try.t83 := by kernel_rfl
@[simp] theorem zok83 : zeroOk Try.prog 83 := zok_mk info83 rfl
@[simp] theorem cellsOf84 : Try.prog.cellsOf 84 = 3 := by kernel_rfl
@[simp] theorem info84 : Try.prog.info? 84 = some Try.t84 := by kernel_rfl
@[simp] theorem zok84 : zeroOk Try.prog 84 := zok_mk info84 rfl
@[simp] theorem cellsOf85 : Try.prog.cellsOf 85 = 1 := by kernel_rfl
@[simp] theorem info85 : Try.prog.info? 85 = some Try.t85 := by kernel_rfl
@[simp] theorem cellsOf86 : Try.prog.cellsOf 86 = 1 := by kernel_rfl
@[simp] theorem info86 : Try.prog.info? 86 = some Try.t86 := by kernel_rfl
@[simp] theorem zok86 : zeroOk Try.prog 86 := zok_mk info86 rfl
@[simp] theorem cellsOf87 : Try.prog.cellsOf 87 = 3 := by kernel_rfl
@[simp] theorem info87 : Try.prog.info? 87 = some Try.t87 := by kernel_rfl
@[simp] theorem zok87 : zeroOk Try.prog 87 := zok_mk info87 rfl
@[simp] theorem cellsOf88 : Try.prog.cellsOf 88 = 3 := by kernel_rfl
@[simp] theorem info88 : Try.prog.info? 88 = some Try.t88 := by kernel_rfl
@[simp] theorem zok88 : zeroOk Try.prog 88 := zok_mk info88 rfl
@[simp] theorem cellsOf89 : Try.prog.cellsOf 89 = 1 := by kernel_rfl
@[simp] theorem info89 : Try.prog.info? 89 = some Try.t89 := by kernel_rfl
@[simp] theorem cellsOf90 : Try.prog.cellsOf 90 = 1 := by kernel_rfl
@[simp] theorem info90 : Try.prog.info? 90 = some Try.t90 := by kernel_rfl
@[simp] theorem zok90 : zeroOk Try.prog 90 := zok_mk info90 rfl
@[simp] theorem cellsOf91 : Try.prog.cellsOf 91 = 1 := by kernel_rfl
@[simp] theorem info91 : Try.prog.info? 91 = some Try.t91 := by kernel_rfl
@[simp] theorem zok91 : zeroOk Try.prog 91 := zok_mk info91 rfl
@[simp] theorem cellsOf92 : Try.prog.cellsOf 92 = 1 := by kernel_rfl
@[simp] theorem info92 : Try.prog.info? 92 = some Try.t92 := by kernel_rfl
@[simp] theorem zok92 : zeroOk Try.prog 92 := zok_mk info92 rfl
@[simp] theorem cellsOf93 : Try.prog.cellsOf 93 = 1 := by kernel_rfl
@[simp] theorem info93 : Try.prog.info? 93 = some Try.t93 := by kernel_rfl
@[simp] theorem zok93 : zeroOk Try.prog 93 := zok_mk info93 rfl
@[simp] theorem cellsOf94 : Try.prog.cellsOf 94 = 1 := by kernel_rfl
@[simp] theorem info94 : Try.prog.info? 94 = some Try.t94 := by kernel_rfl
@[simp] theorem zok94 : zeroOk Try.prog 94 := zok_mk info94 rfl
@[simp] theorem cellsOf95 : Try.prog.cellsOf 95 = 1 := by kernel_rfl
@[simp] theorem info95 : Try.prog.info? 95 = some Try.t95 := by kernel_rfl
@[simp] theorem zok95 : zeroOk Try.prog 95 := zok_mk info95 rfl
@[simp] theorem cellsOf96 : Try.prog.cellsOf 96 = 1 := by kernel_rfl
@[simp] theorem info96 : Try.prog.info? 96 = some Try.t96 := by kernel_rfl
@[simp] theorem zok96 : zeroOk Try.prog 96 := zok_mk info96 rfl
@[simp] theorem cellsOf97 : Try.prog.cellsOf 97 = 1 := by kernel_rfl
@[simp] theorem info97 : Try.prog.info? 97 = some Try.t97 := by kernel_rfl
@[simp] theorem zok97 : zeroOk Try.prog 97 := zok_mk info97 rfl
@[simp] theorem cellsOf98 : Try.prog.cellsOf 98 = 1 := by kernel_rfl
@[simp] theorem info98 : Try.prog.info? 98 = some Try.t98 := by kernel_rfl
@[simp] theorem zok98 : zeroOk Try.prog 98 := zok_mk info98 rfl
@[simp] theorem cellsOf99 : Try.prog.cellsOf 99 = 5 := by kernel_rfl
@[simp] theorem info99 : Try.prog.info? 99 = some Try.t99 := by kernel_rfl
@[simp] theorem zok99 : zeroOk Try.prog 99 := zok_mk info99 rfl
@[simp] theorem cellsOf100 : Try.prog.cellsOf 100 = 5 := by kernel_rfl
@[simp] theorem info100 : Try.prog.info? 100 = some Try.t100 := by kernel_rfl
@[simp] theorem zok100 : zeroOk Try.prog 100 := zok_mk info100 rfl
@[simp] theorem cellsOf101 : Try.prog.cellsOf 101 = 1 := by kernel_rfl
@[simp] theorem info101 : Try.prog.info? 101 = some Try.t101 := by kernel_rfl
@[simp] theorem zok101 : zeroOk Try.prog 101 := zok_mk info101 rfl
@[simp] theorem cellsOf102 : Try.prog.cellsOf 102 = 7 := by kernel_rfl
@[simp] theorem info102 : Try.prog.info? 102 = some Try.t102 := by kernel_rfl
@[simp] theorem zok102 : zeroOk Try.prog 102 := zok_mk info102 rfl
@[simp] theorem cellsOf103 : Try.prog.cellsOf 103 = 7 := by kernel_rfl
@[simp] theorem info103 : Try.prog.info? 103 = some Try.t103 := by kernel_rfl
@[simp] theorem zok103 : zeroOk Try.prog 103 := zok_mk info103 rfl
@[simp] theorem cellsOf104 : Try.prog.cellsOf 104 = 5 := by kernel_rfl
@[simp] theorem info104 : Try.prog.info? 104 = some Try.t104 := by kernel_rfl
@[simp] theorem zok104 : zeroOk Try.prog 104 := zok_mk info104 rfl
@[simp] theorem cellsOf105 : Try.prog.cellsOf 105 = 5 := by kernel_rfl
@[simp] theorem info105 : Try.prog.info? 105 = some Try.t105 := by kernel_rfl
@[simp] theorem zok105 : zeroOk Try.prog 105 := zok_mk info105 rfl
@[simp] theorem cellsOf106 : Try.prog.cellsOf 106 = 1 := by kernel_rfl
@[simp] theorem info106 : Try.prog.info? 106 = some Try.t106 := by kernel_rfl
@[simp] theorem zok106 : zeroOk Try.prog 106 := zok_mk info106 rfl
@[simp] theorem cellsOf107 : Try.prog.cellsOf 107 = 1 := by kernel_rfl
@[simp] theorem info107 : Try.prog.info? 107 = some Try.t107 := by kernel_rfl
@[simp] theorem zok107 : zeroOk Try.prog 107 := zok_mk info107 rfl
@[simp] theorem cellsOf108 : Try.prog.cellsOf 108 = 1 := by kernel_rfl
@[simp] theorem info108 : Try.prog.info? 108 = some Try.t108 := by kernel_rfl
@[simp] theorem zok108 : zeroOk Try.prog 108 := zok_mk info108 rfl
@[simp] theorem cellsOf109 : Try.prog.cellsOf 109 = 1 := by kernel_rfl
@[simp] theorem info109 : Try.prog.info? 109 = some Try.t109 := by kernel_rfl
@[simp] theorem zok109 : zeroOk Try.prog 109 := zok_mk info109 rfl
@[simp] theorem cellsOf110 : Try.prog.cellsOf 110 = 1 := by kernel_rfl
@[simp] theorem info110 : Try.prog.info? 110 = some Try.t110 := by kernel_rfl
@[simp] theorem zok110 : zeroOk Try.prog 110 := zok_mk info110 rfl
@[simp] theorem cellsOf111 : Try.prog.cellsOf 111 = 1 := by kernel_rfl
@[simp] theorem info111 : Try.prog.info? 111 = some Try.t111 := by kernel_rfl
@[simp] theorem zok111 : zeroOk Try.prog 111 := zok_mk info111 rfl
@[simp] theorem cellsOf112 : Try.prog.cellsOf 112 = 1 := by kernel_rfl
@[simp] theorem info112 : Try.prog.info? 112 = some Try.t112 := by kernel_rfl
@[simp] theorem zok112 : zeroOk Try.prog 112 := zok_mk info112 rfl
@[simp] theorem cellsOf113 : Try.prog.cellsOf 113 = 1 := by kernel_rfl
@[simp] theorem info113 : Try.prog.info? 113 = some Try.t113 := by kernel_rfl
@[simp] theorem zok113 : zeroOk Try.prog 113 := zok_mk info113 rfl
@[simp] theorem cellsOf114 : Try.prog.cellsOf 114 = 1 := by kernel_rfl
@[simp] theorem info114 : Try.prog.info? 114 = some Try.t114 := by kernel_rfl
@[simp] theorem zok114 : zeroOk Try.prog 114 := zok_mk info114 rfl
@[simp] theorem cellsOf115 : Try.prog.cellsOf 115 = 2 := by kernel_rfl
@[simp] theorem info115 : Try.prog.info? 115 = some Try.t115 := by kernel_rfl
@[simp] theorem zok115 : zeroOk Try.prog 115 := zok_mk info115 rfl
@[simp] theorem cellsOf116 : Try.prog.cellsOf 116 = 2 := by kernel_rfl
@[simp] theorem info116 : Try.prog.info? 116 = some Try.t116 := by kernel_rfl
@[simp] theorem zok116 : zeroOk Try.prog 116 := zok_mk info116 rfl
@[simp] theorem cellsOf117 : Try.prog.cellsOf 117 = 1 := by kernel_rfl
@[simp] theorem info117 : Try.prog.info? 117 = some Try.t117 := by kernel_rfl
@[simp] theorem zok117 : zeroOk Try.prog 117 := zok_mk info117 rfl
@[simp] theorem cellsOf118 : Try.prog.cellsOf 118 = 1 := by kernel_rfl
@[simp] theorem info118 : Try.prog.info? 118 = some Try.t118 := by kernel_rfl
@[simp] theorem zok118 : zeroOk Try.prog 118 := zok_mk info118 rfl
@[simp] theorem cellsOf119 : Try.prog.cellsOf 119 = 1 := by kernel_rfl
@[simp] theorem info119 : Try.prog.info? 119 = some Try.t119 := by kernel_rfl
@[simp] theorem zok119 : zeroOk Try.prog 119 := zok_mk info119 rfl
@[simp] theorem cellsOf120 : Try.prog.cellsOf 120 = 1 := by kernel_rfl
@[simp] theorem info120 : Try.prog.info? 120 = some Try.t120 := by kernel_rfl
@[simp] theorem cellsOf121 : Try.prog.cellsOf 121 = 1 := by kernel_rfl
@[simp] theorem info121 : Try.prog.info? 121 = some Try.t121 := by kernel_rfl
@[simp] theorem zok121 : zeroOk Try.prog 121 := zok_mk info121 rfl
@[simp] theorem cellsOf122 : Try.prog.cellsOf 122 = 1 := by kernel_rfl
@[simp] theorem info122 : Try.prog.info? 122 = some Try.t122 := by kernel_rfl
@[simp] theorem cellsOf123 : Try.prog.cellsOf 123 = 1 := by kernel_rfl
@[simp] theorem info123 : Try.prog.info? 123 = some Try.t123 := by kernel_rfl
@[simp] theorem zok123 : zeroOk Try.prog 123 := zok_mk info123 rfl
@[simp] theorem cellsOf124 : Try.prog.cellsOf 124 = 1 := by kernel_rfl
@[simp] theorem info124 : Try.prog.info? 124 = some Try.t124 := by kernel_rfl
@[simp] theorem zok124 : zeroOk Try.prog 124 := zok_mk info124 rfl
@[simp] theorem cellsOf125 : Try.prog.cellsOf 125 = 1 := by kernel_rfl
@[simp] theorem info125 : Try.prog.info? 125 = some Try.t125 := by kernel_rfl
@[simp] theorem zok125 : zeroOk Try.prog 125 := zok_mk info125 rfl
@[simp] theorem cellsOf126 : Try.prog.cellsOf 126 = 1 := by kernel_rfl
@[simp] theorem info126 : Try.prog.info? 126 = some Try.t126 := by kernel_rfl
@[simp] theorem zok126 : zeroOk Try.prog 126 := zok_mk info126 rfl
@[simp] theorem cellsOf127 : Try.prog.cellsOf 127 = 1 := by kernel_rfl
@[simp] theorem info127 : Try.prog.info? 127 = some Try.t127 := by kernel_rfl
@[simp] theorem zok127 : zeroOk Try.prog 127 := zok_mk info127 rfl
@[simp] theorem cellsOf128 : Try.prog.cellsOf 128 = 1 := by kernel_rfl
@[simp] theorem info128 : Try.prog.info? 128 = some Try.t128 := by kernel_rfl
@[simp] theorem zok128 : zeroOk Try.prog 128 := zok_mk info128 rfl
@[simp] theorem cellsOf129 : Try.prog.cellsOf 129 = 1 := by kernel_rfl
@[simp] theorem info129 : Try.prog.info? 129 = some Try.t129 := by kernel_rfl
@[simp] theorem zok129 : zeroOk Try.prog 129 := zok_mk info129 rfl
@[simp] theorem cellsOf130 : Try.prog.cellsOf 130 = 1 := by kernel_rfl
@[simp] theorem info130 : Try.prog.info? 130 = some Try.t130 := by kernel_rfl
@[simp] theorem zok130 : zeroOk Try.prog 130 := zok_mk info130 rfl
@[simp] theorem cellsOf131 : Try.prog.cellsOf 131 = 1 := by kernel_rfl
@[simp] theorem info131 : Try.prog.info? 131 = some Try.t131 := by kernel_rfl
@[simp] theorem cellsOf132 : Try.prog.cellsOf 132 = 1 := by kernel_rfl
@[simp] theorem info132 : Try.prog.info? 132 = some Try.t132 := by kernel_rfl
@[simp] theorem zok132 : zeroOk Try.prog 132 := zok_mk info132 rfl
@[simp] theorem cellsOf133 : Try.prog.cellsOf 133 = 1 := by kernel_rfl
@[simp] theorem info133 : Try.prog.info? 133 = some Try.t133 := by kernel_rfl
@[simp] theorem zok133 : zeroOk Try.prog 133 := zok_mk info133 rfl
@[simp] theorem cellsOf134 : Try.prog.cellsOf 134 = 1 := by kernel_rfl
@[simp] theorem info134 : Try.prog.info? 134 = some Try.t134 := by kernel_rfl
@[simp] theorem cellsOf135 : Try.prog.cellsOf 135 = 1 := by kernel_rfl
@[simp] theorem info135 : Try.prog.info? 135 = some Try.t135 := by kernel_rfl
@[simp] theorem zok135 : zeroOk Try.prog 135 := zok_mk info135 rfl
@[simp] theorem cellsOf136 : Try.prog.cellsOf 136 = 1 := by kernel_rfl
@[simp] theorem info136 : Try.prog.info? 136 = some Try.t136 := by kernel_rfl
@[simp] theorem cellsOf137 : Try.prog.cellsOf 137 = 1 := by kernel_rfl
@[simp] theorem info137 : Try.prog.info? 137 = some Try.t137 := by kernel_rfl
@[simp] theorem zok137 : zeroOk Try.prog 137 := zok_mk info137 rfl
@[simp] theorem cellsOf138 : Try.prog.cellsOf 138 = 1 := by kernel_rfl
@[simp] theorem info138 : Try.prog.info? 138 = some Try.t138 := by kernel_rfl
@[simp] theorem zok138 : zeroOk Try.prog 138 := zok_mk info138 rfl
@[simp] theorem cellsOf139 : Try.prog.cellsOf 139 = 1 := by kernel_rfl
@[simp] theorem info139 : Try.prog.info? 139 = some Try.t139 := by kernel_rfl
@[simp] theorem zok139 : zeroOk Try.prog 139 := zok_mk info139 rfl
@[simp] theorem cellsOf140 : Try.prog.cellsOf 140 = 1 := by kernel_rfl
@[simp] theorem info140 : Try.prog.info? 140 = some Try.t140 := by kernel_rfl
@[simp] theorem zok140 : zeroOk Try.prog 140 := zok_mk info140 rfl
@[simp] theorem cellsOf141 : Try.prog.cellsOf 141 = 1 := by kernel_rfl
@[simp] theorem info141 : Try.prog.info? 141 = some Try.t141 := by kernel_rfl
@[simp] theorem zok141 : zeroOk Try.prog 141 := zok_mk info141 rfl
@[simp] theorem cellsOf142 : Try.prog.cellsOf 142 = 1 := by kernel_rfl
@[simp] theorem info142 : Try.prog.info? 142 = some Try.t142 := by kernel_rfl
@[simp] theorem zok142 : zeroOk Try.prog 142 := zok_mk info142 rfl
@[simp] theorem cellsOf143 : Try.prog.cellsOf 143 = 1 := by kernel_rfl
@[simp] theorem info143 : Try.prog.info? 143 = some Try.t143 := by kernel_rfl
@[simp] theorem zok143 : zeroOk Try.prog 143 := zok_mk info143 rfl
@[simp] theorem cellsOf144 : Try.prog.cellsOf 144 = 1 := by kernel_rfl
@[simp] theorem info144 : Try.prog.info? 144 = some Try.t144 := by kernel_rfl
@[simp] theorem zok144 : zeroOk Try.prog 144 := zok_mk info144 rfl
@[simp] theorem cellsOf145 : Try.prog.cellsOf 145 = 1 := by kernel_rfl
@[simp] theorem info145 : Try.prog.info? 145 = some Try.t145 := by kernel_rfl
@[simp] theorem zok145 : zeroOk Try.prog 145 := zok_mk info145 rfl
@[simp] theorem cellsOf146 : Try.prog.cellsOf 146 = 1 := by kernel_rfl
@[simp] theorem info146 : Try.prog.info? 146 = some Try.t146 := by kernel_rfl
@[simp] theorem zok146 : zeroOk Try.prog 146 := zok_mk info146 rfl
@[simp] theorem cellsOf147 : Try.prog.cellsOf 147 = 1 := by kernel_rfl
@[simp] theorem info147 : Try.prog.info? 147 = some Try.t147 := by kernel_rfl
@[simp] theorem zok147 : zeroOk Try.prog 147 := zok_mk info147 rfl
@[simp] theorem cellsOf148 : Try.prog.cellsOf 148 = 1 := by kernel_rfl
@[simp] theorem info148 : Try.prog.info? 148 = some Try.t148 := by kernel_rfl
@[simp] theorem zok148 : zeroOk Try.prog 148 := zok_mk info148 rfl
@[simp] theorem cellsOf149 : Try.prog.cellsOf 149 = 1 := by kernel_rfl
@[simp] theorem info149 : Try.prog.info? 149 = some Try.t149 := by kernel_rfl
@[simp] theorem zok149 : zeroOk Try.prog 149 := zok_mk info149 rfl
@[simp] theorem cellsOf150 : Try.prog.cellsOf 150 = 1 := by kernel_rfl
@[simp] theorem info150 : Try.prog.info? 150 = some Try.t150 := by kernel_rfl
@[simp] theorem zok150 : zeroOk Try.prog 150 := zok_mk info150 rfl
@[simp] theorem cellsOf151 : Try.prog.cellsOf 151 = 2 := by kernel_rfl
@[simp] theorem info151 : Try.prog.info? 151 = some Try.t151 := by kernel_rfl
@[simp] theorem zok151 : zeroOk Try.prog 151 := zok_mk info151 rfl
@[simp] theorem cellsOf152 : Try.prog.cellsOf 152 = 2 := by kernel_rfl
@[simp] theorem info152 : Try.prog.info? 152 = some Try.t152 := by kernel_rfl
@[simp] theorem zok152 : zeroOk Try.prog 152 := zok_mk info152 rfl
@[simp] theorem cellsOf153 : Try.prog.cellsOf 153 = 1 := by kernel_rfl
@[simp] theorem info153 : Try.prog.info? 153 = some Try.t153 := by kernel_rfl
@[simp] theorem zok153 : zeroOk Try.prog 153 := zok_mk info153 rfl
@[simp] theorem cellsOf154 : Try.prog.cellsOf 154 = 1 := by kernel_rfl
@[simp] theorem info154 : Try.prog.info? 154 = some Try.t154 := by kernel_rfl
@[simp] theorem zok154 : zeroOk Try.prog 154 := zok_mk info154 rfl
@[simp] theorem cellsOf155 : Try.prog.cellsOf 155 = 1 := by kernel_rfl
@[simp] theorem info155 : Try.prog.info? 155 = some Try.t155 := by kernel_rfl
@[simp] theorem zok155 : zeroOk Try.prog 155 := zok_mk info155 rfl
@[simp] theorem cellsOf156 : Try.prog.cellsOf 156 = 1 := by kernel_rfl
@[simp] theorem info156 : Try.prog.info? 156 = some Try.t156 := by kernel_rfl
@[simp] theorem zok156 : zeroOk Try.prog 156 := zok_mk info156 rfl
@[simp] theorem cellsOf157 : Try.prog.cellsOf 157 = 1 := by kernel_rfl
@[simp] theorem info157 : Try.prog.info? 157 = some Try.t157 := by kernel_rfl
@[simp] theorem zok157 : zeroOk Try.prog 157 := zok_mk info157 rfl
@[simp] theorem cellsOf158 : Try.prog.cellsOf 158 = 1 := by kernel_rfl
@[simp] theorem info158 : Try.prog.info? 158 = some Try.t158 := by kernel_rfl
@[simp] theorem cellsOf159 : Try.prog.cellsOf 159 = 1 := by kernel_rfl
@[simp] theorem info159 : Try.prog.info? 159 = some Try.t159 := by kernel_rfl
@[simp] theorem zok159 : zeroOk Try.prog 159 := zok_mk info159 rfl
@[simp] theorem cellsOf160 : Try.prog.cellsOf 160 = 1 := by kernel_rfl
@[simp] theorem info160 : Try.prog.info? 160 = some Try.t160 := by kernel_rfl
@[simp] theorem cellsOf161 : Try.prog.cellsOf 161 = 1 := by kernel_rfl
@[simp] theorem info161 : Try.prog.info? 161 = some Try.t161 := by kernel_rfl
@[simp] theorem zok161 : zeroOk Try.prog 161 := zok_mk info161 rfl
@[simp] theorem cellsOf162 : Try.prog.cellsOf 162 = 1 := by kernel_rfl
@[simp] theorem info162 : Try.prog.info? 162 = some Try.t162 := by kernel_rfl
@[simp] theorem cellsOf163 : Try.prog.cellsOf 163 = 1 := by kernel_rfl
@[simp] theorem info163 : Try.prog.info? 163 = some Try.t163 := by kernel_rfl
@[simp] theorem zok163 : zeroOk Try.prog 163 := zok_mk info163 rfl
@[simp] theorem cellsOf164 : Try.prog.cellsOf 164 = 1 := by kernel_rfl
@[simp] theorem info164 : Try.prog.info? 164 = some Try.t164 := by kernel_rfl
@[simp] theorem zok164 : zeroOk Try.prog 164 := zok_mk info164 rfl
@[simp] theorem cellsOf165 : Try.prog.cellsOf 165 = 4 := by kernel_rfl
@[simp] theorem info165 : Try.prog.info? 165 = some Try.t165 := by kernel_rfl
@[simp] theorem zok165 : zeroOk Try.prog 165 := zok_mk info165 rfl
@[simp] theorem cellsOf166 : Try.prog.cellsOf 166 = 4 := by kernel_rfl
@[simp] theorem info166 : Try.prog.info? 166 = some Try.t166 := by kernel_rfl
@[simp] theorem zok166 : zeroOk Try.prog 166 := zok_mk info166 rfl
@[simp] theorem cellsOf167 : Try.prog.cellsOf 167 = 1 := by kernel_rfl
@[simp] theorem info167 : Try.prog.info? 167 = some Try.t167 := by kernel_rfl
@[simp] theorem cellsOf168 : Try.prog.cellsOf 168 = 1 := by kernel_rfl
@[simp] theorem info168 : Try.prog.info? 168 = some Try.t168 := by kernel_rfl
@[simp] theorem zok168 : zeroOk Try.prog 168 := zok_mk info168 rfl
@[simp] theorem cellsOf169 : Try.prog.cellsOf 169 = 1 := by kernel_rfl
@[simp] theorem info169 : Try.prog.info? 169 = some Try.t169 := by kernel_rfl
@[simp] theorem zok169 : zeroOk Try.prog 169 := zok_mk info169 rfl
@[simp] theorem cellsOf170 : Try.prog.cellsOf 170 = 1 := by kernel_rfl
@[simp] theorem info170 : Try.prog.info? 170 = some Try.t170 := by kernel_rfl
@[simp] theorem zok170 : zeroOk Try.prog 170 := zok_mk info170 rfl
@[simp] theorem cellsOf171 : Try.prog.cellsOf 171 = 1 := by kernel_rfl
@[simp] theorem info171 : Try.prog.info? 171 = some Try.t171 := by kernel_rfl
@[simp] theorem zok171 : zeroOk Try.prog 171 := zok_mk info171 rfl
@[simp] theorem cellsOf172 : Try.prog.cellsOf 172 = 1 := by kernel_rfl
@[simp] theorem info172 : Try.prog.info? 172 = some Try.t172 := by kernel_rfl
@[simp] theorem zok172 : zeroOk Try.prog 172 := zok_mk info172 rfl
@[simp] theorem cellsOf173 : Try.prog.cellsOf 173 = 1 := by kernel_rfl
@[simp] theorem info173 : Try.prog.info? 173 = some Try.t173 := by kernel_rfl
@[simp] theorem cellsOf174 : Try.prog.cellsOf 174 = 1 := by kernel_rfl
@[simp] theorem info174 : Try.prog.info? 174 = some Try.t174 := by kernel_rfl
@[simp] theorem zok174 : zeroOk Try.prog 174 := zok_mk info174 rfl
@[simp] theorem cellsOf175 : Try.prog.cellsOf 175 = 1 := by kernel_rfl
@[simp] theorem info175 : Try.prog.info? 175 = some Try.t175 := by kernel_rfl
@[simp] theorem cellsOf176 : Try.prog.cellsOf 176 = 1 := by kernel_rfl
@[simp] theorem info176 : Try.prog.info? 176 = some Try.t176 := by kernel_rfl
@[simp] theorem zok176 : zeroOk Try.prog 176 := zok_mk info176 rfl
@[simp] theorem cellsOf177 : Try.prog.cellsOf 177 = 1 := by kernel_rfl
@[simp] theorem info177 : Try.prog.info? 177 = some Try.t177 := by kernel_rfl
@[simp] theorem cellsOf178 : Try.prog.cellsOf 178 = 1 := by kernel_rfl
@[simp] theorem info178 : Try.prog.info? 178 = some Try.t178 := by kernel_rfl
@[simp] theorem zok178 : zeroOk Try.prog 178 := zok_mk info178 rfl
@[simp] theorem cellsOf179 : Try.prog.cellsOf 179 = 2 := by kernel_rfl
@[simp] theorem info179 : Try.prog.info? 179 = some Try.t179 := by kernel_rfl
@[simp] theorem zok179 : zeroOk Try.prog 179 := zok_mk info179 rfl
@[simp] theorem cellsOf180 : Try.prog.cellsOf 180 = 1 := by kernel_rfl
@[simp] theorem info180 : Try.prog.info? 180 = some Try.t180 := by kernel_rfl
@[simp] theorem cellsOf181 : Try.prog.cellsOf 181 = 1 := by kernel_rfl
@[simp] theorem info181 : Try.prog.info? 181 = some Try.t181 := by kernel_rfl
@[simp] theorem zok181 : zeroOk Try.prog 181 := zok_mk info181 rfl
@[simp] theorem cellsOf182 : Try.prog.cellsOf 182 = 1 := by kernel_rfl
@[simp] theorem info182 : Try.prog.info? 182 = some Try.t182 := by kernel_rfl
@[simp] theorem zok182 : zeroOk Try.prog 182 := zok_mk info182 rfl
@[simp] theorem cellsOf183 : Try.prog.cellsOf 183 = 1 := by kernel_rfl
@[simp] theorem info183 : Try.prog.info? 183 = some Try.t183 := by kernel_rfl
@[simp] theorem zok183 : zeroOk Try.prog 183 := zok_mk info183 rfl
@[simp] theorem cellsOf184 : Try.prog.cellsOf 184 = 1 := by kernel_rfl
@[simp] theorem info184 : Try.prog.info? 184 = some Try.t184 := by kernel_rfl
@[simp] theorem zok184 : zeroOk Try.prog 184 := zok_mk info184 rfl
@[simp] theorem cellsOf185 : Try.prog.cellsOf 185 = 1 := by kernel_rfl
@[simp] theorem info185 : Try.prog.info? 185 = some Try.t185 := by kernel_rfl
@[simp] theorem cellsOf186 : Try.prog.cellsOf 186 = 1 := by kernel_rfl
@[simp] theorem info186 : Try.prog.info? 186 = some Try.t186 := by kernel_rfl
@[simp] theorem zok186 : zeroOk Try.prog 186 := zok_mk info186 rfl
@[simp] theorem cellsOf187 : Try.prog.cellsOf 187 = 1 := by kernel_rfl
@[simp] theorem info187 : Try.prog.info? 187 = some Try.t187 := by kernel_rfl
@[simp] theorem zok187 : zeroOk Try.prog 187 := zok_mk info187 rfl
@[simp] theorem cellsOf188 : Try.prog.cellsOf 188 = 1 := by kernel_rfl
@[simp] theorem info188 : Try.prog.info? 188 = some Try.t188 := by kernel_rfl
@[simp] theorem zok188 : zeroOk Try.prog 188 := zok_mk info188 rfl
@[simp] theorem cellsOf189 : Try.prog.cellsOf 189 = 1 := by kernel_rfl
@[simp] theorem info189 : Try.prog.info? 189 = some Try.t189 := by kernel_rfl
@[simp] theorem cellsOf190 : Try.prog.cellsOf 190 = 1 := by kernel_rfl
@[simp] theorem info190 : Try.prog.info? 190 = some Try.t190 := by kernel_rfl
@[simp] theorem zok190 : zeroOk Try.prog 190 := zok_mk info190 rfl
@[simp] theorem cellsOf191 : Try.prog.cellsOf 191 = 1 := by kernel_rfl
@[simp] theorem info191 : Try.prog.info? 191 = some Try.t191 := by kernel_rfl
@[simp] theorem cellsOf192 : Try.prog.cellsOf 192 = 1 := by kernel_rfl
@[simp] theorem info192 : Try.prog.info? 192 = some Try.t192 := by kernel_rfl
@[simp] theorem zok192 : zeroOk Try.prog 192 := zok_mk info192 rfl
@[simp] theorem cellsOf193 : Try.prog.cellsOf 193 = 1 := by kernel_rfl
@[simp] theorem info193 : Try.prog.info? 193 = some Try.t193 := by kernel_rfl
@[simp] theorem zok193 : zeroOk Try.prog 193 := zok_mk info193 rfl
@[simp] theorem cellsOf194 : Try.prog.cellsOf 194 = 1 := by kernel_rfl
@[simp] theorem info194 : Try.prog.info? 194 = some Try.t194 := by kernel_rfl
@[simp] theorem zok194 : zeroOk Try.prog 194 := zok_mk info194 rfl
@[simp] theorem cellsOf195 : Try.prog.cellsOf 195 = 1 := by kernel_rfl
@[simp] theorem info195 : Try.prog.info? 195 = some Try.t195 := by kernel_rfl
@[simp] theorem zok195 : zeroOk Try.prog 195 := zok_mk info195 rfl
@[simp] theorem cellsOf196 : Try.prog.cellsOf 196 = 1 := by kernel_rfl
@[simp] theorem info196 : Try.prog.info? 196 = some Try.t196 := by kernel_rfl
@[simp] theorem zok196 : zeroOk Try.prog 196 := zok_mk info196 rfl
@[simp] theorem cellsOf197 : Try.prog.cellsOf 197 = 1 := by kernel_rfl
@[simp] theorem info197 : Try.prog.info? 197 = some Try.t197 := by kernel_rfl
@[simp] theorem zok197 : zeroOk Try.prog 197 := zok_mk info197 rfl
@[simp] theorem cellsOf198 : Try.prog.cellsOf 198 = 1 := by kernel_rfl
@[simp] theorem info198 : Try.prog.info? 198 = some Try.t198 := by kernel_rfl
@[simp] theorem zok198 : zeroOk Try.prog 198 := zok_mk info198 rfl
@[simp] theorem cellsOf199 : Try.prog.cellsOf 199 = 1 := by kernel_rfl
@[simp] theorem info199 : Try.prog.info? 199 = some Try.t199 := by kernel_rfl
@[simp] theorem zok199 : zeroOk Try.prog 199 := zok_mk info199 rfl
@[simp] theorem cellsOf200 : Try.prog.cellsOf 200 = 1 := by kernel_rfl
@[simp] theorem info200 : Try.prog.info? 200 = some Try.t200 := by kernel_rfl
@[simp] theorem zok200 : zeroOk Try.prog 200 := zok_mk info200 rfl
@[simp] theorem cellsOf201 : Try.prog.cellsOf 201 = 1 := by kernel_rfl
@[simp] theorem info201 : Try.prog.info? 201 = some Try.t201 := by kernel_rfl
@[simp] theorem zok201 : zeroOk Try.prog 201 := zok_mk info201 rfl
@[simp] theorem cellsOf202 : Try.prog.cellsOf 202 = 1 := by kernel_rfl
@[simp] theorem info202 : Try.prog.info? 202 = some Try.t202 := by kernel_rfl
@[simp] theorem zok202 : zeroOk Try.prog 202 := zok_mk info202 rfl
@[simp] theorem cellsOf203 : Try.prog.cellsOf 203 = 1 := by kernel_rfl
@[simp] theorem info203 : Try.prog.info? 203 = some Try.t203 := by kernel_rfl
@[simp] theorem zok203 : zeroOk Try.prog 203 := zok_mk info203 rfl
@[simp] theorem cellsOf204 : Try.prog.cellsOf 204 = 1 := by kernel_rfl
@[simp] theorem info204 : Try.prog.info? 204 = some Try.t204 := by kernel_rfl
@[simp] theorem zok204 : zeroOk Try.prog 204 := zok_mk info204 rfl
@[simp] theorem cellsOf205 : Try.prog.cellsOf 205 = 1 := by kernel_rfl
@[simp] theorem info205 : Try.prog.info? 205 = some Try.t205 := by kernel_rfl
@[simp] theorem zok205 : zeroOk Try.prog 205 := zok_mk info205 rfl
@[simp] theorem cellsOf206 : Try.prog.cellsOf 206 = 1 := by kernel_rfl
@[simp] theorem info206 : Try.prog.info? 206 = some Try.t206 := by kernel_rfl
@[simp] theorem cellsOf207 : Try.prog.cellsOf 207 = 1 := by kernel_rfl
@[simp] theorem info207 : Try.prog.info? 207 = some Try.t207 := by kernel_rfl
@[simp] theorem zok207 : zeroOk Try.prog 207 := zok_mk info207 rfl
@[simp] theorem cellsOf208 : Try.prog.cellsOf 208 = 1 := by kernel_rfl
@[simp] theorem info208 : Try.prog.info? 208 = some Try.t208 := by kernel_rfl
@[simp] theorem zok208 : zeroOk Try.prog 208 := zok_mk info208 rfl
@[simp] theorem cellsOf209 : Try.prog.cellsOf 209 = 1 := by kernel_rfl
@[simp] theorem info209 : Try.prog.info? 209 = some Try.t209 := by kernel_rfl
@[simp] theorem zok209 : zeroOk Try.prog 209 := zok_mk info209 rfl
@[simp] theorem cellsOf210 : Try.prog.cellsOf 210 = 1 := by kernel_rfl
@[simp] theorem info210 : Try.prog.info? 210 = some Try.t210 := by kernel_rfl
@[simp] theorem zok210 : zeroOk Try.prog 210 := zok_mk info210 rfl
@[simp] theorem cellsOf211 : Try.prog.cellsOf 211 = 1 := by kernel_rfl
@[simp] theorem info211 : Try.prog.info? 211 = some Try.t211 := by kernel_rfl
@[simp] theorem zok211 : zeroOk Try.prog 211 := zok_mk info211 rfl
@[simp] theorem cellsOf212 : Try.prog.cellsOf 212 = 1 := by kernel_rfl
@[simp] theorem info212 : Try.prog.info? 212 = some Try.t212 := by kernel_rfl
@[simp] theorem zok212 : zeroOk Try.prog 212 := zok_mk info212 rfl
@[simp] theorem cellsOf213 : Try.prog.cellsOf 213 = 1 := by kernel_rfl
@[simp] theorem info213 : Try.prog.info? 213 = some Try.t213 := by kernel_rfl
@[simp] theorem zok213 : zeroOk Try.prog 213 := zok_mk info213 rfl
@[simp] theorem cellsOf214 : Try.prog.cellsOf 214 = 1 := by kernel_rfl
@[simp] theorem info214 : Try.prog.info? 214 = some Try.t214 := by kernel_rfl
@[simp] theorem zok214 : zeroOk Try.prog 214 := zok_mk info214 rfl
@[simp] theorem cellsOf215 : Try.prog.cellsOf 215 = 4 := by kernel_rfl
@[simp] theorem info215 : Try.prog.info? 215 = some Try.t215 := by kernel_rfl
@[simp] theorem zok215 : zeroOk Try.prog 215 := zok_mk info215 rfl
@[simp] theorem cellsOf216 : Try.prog.cellsOf 216 = 4 := by kernel_rfl
@[simp] theorem info216 : Try.prog.info? 216 = some Try.t216 := by kernel_rfl
@[simp] theorem zok216 : zeroOk Try.prog 216 := zok_mk info216 rfl
@[simp] theorem cellsOf217 : Try.prog.cellsOf 217 = 0 := by kernel_rfl
@[simp] theorem info217 : Try.prog.info? 217 = some Try.t217 := by kernel_rfl
@[simp] theorem zok217 : zeroOk Try.prog 217 := zok_mk info217 rfl
@[simp] theorem cellsOf218 : Try.prog.cellsOf 218 = 0 := by kernel_rfl
@[simp] theorem info218 : Try.prog.info? 218 = some Try.t218 := by kernel_rfl
@[simp] theorem zok218 : zeroOk Try.prog 218 := zok_mk info218 rfl
@[simp] theorem cellsOf219 : Try.prog.cellsOf 219 = 0 := by kernel_rfl
@[simp] theorem info219 : Try.prog.info? 219 = some Try.t219 := by kernel_rfl
@[simp] theorem zok219 : zeroOk Try.prog 219 := zok_mk info219 rfl
@[simp] theorem cellsOf220 : Try.prog.cellsOf 220 = 1 := by kernel_rfl
@[simp] theorem info220 : Try.prog.info? 220 = some Try.t220 := by kernel_rfl
@[simp] theorem zok220 : zeroOk Try.prog 220 := zok_mk info220 rfl
@[simp] theorem cellsOf221 : Try.prog.cellsOf 221 = 1 := by kernel_rfl
@[simp] theorem info221 : Try.prog.info? 221 = some Try.t221 := by kernel_rfl
@[simp] theorem zok221 : zeroOk Try.prog 221 := zok_mk info221 rfl
@[simp] theorem cellsOf222 : Try.prog.cellsOf 222 = 1 := by kernel_rfl
@[simp] theorem info222 : Try.prog.info? 222 = some Try.t222 := by kernel_rfl
@[simp] theorem zok222 : zeroOk Try.prog 222 := zok_mk info222 rfl
@[simp] theorem cellsOf223 : Try.prog.cellsOf 223 = 1 := by kernel_rfl
@[simp] theorem info223 : Try.prog.info? 223 = some Try.t223 := by kernel_rfl
@[simp] theorem zok223 : zeroOk Try.prog 223 := zok_mk info223 rfl
@[simp] theorem cellsOf224 : Try.prog.cellsOf 224 = 1 := by kernel_rfl
@[simp] theorem info224 : Try.prog.info? 224 = some Try.t224 := by kernel_rfl
@[simp] theorem zok224 : zeroOk Try.prog 224 := zok_mk info224 rfl
@[simp] theorem cellsOf225 : Try.prog.cellsOf 225 = 1 := by kernel_rfl
@[simp] theorem info225 : Try.prog.info? 225 = some Try.t225 := by kernel_rfl
@[simp] theorem zok225 : zeroOk Try.prog 225 := zok_mk info225 rfl
@[simp] theorem cellsOf226 : Try.prog.cellsOf 226 = 1 := by kernel_rfl
@[simp] theorem info226 : Try.prog.info? 226 = some Try.t226 := by kernel_rfl
@[simp] theorem zok226 : zeroOk Try.prog 226 := zok_mk info226 rfl
@[simp] theorem cellsOf227 : Try.prog.cellsOf 227 = 11 := by kernel_rfl
@[simp] theorem info227 : Try.prog.info? 227 = some Try.t227 := by kernel_rfl
@[simp] theorem zok227 : zeroOk Try.prog 227 := zok_mk info227 rfl
@[simp] theorem cellsOf228 : Try.prog.cellsOf 228 = 11 := by kernel_rfl
@[simp] theorem info228 : Try.prog.info? 228 = some Try.t228 := by kernel_rfl
@[simp] theorem zok228 : zeroOk Try.prog 228 := zok_mk info228 rfl
@[simp] theorem cellsOf229 : Try.prog.cellsOf 229 = 1 := by kernel_rfl
@[simp] theorem info229 : Try.prog.info? 229 = some Try.t229 := by kernel_rfl
@[simp] theorem zok229 : zeroOk Try.prog 229 := zok_mk info229 rfl
end Go.Proofs.Ythoaneleeabadaa
