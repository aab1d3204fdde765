/-
  Facts on the types of the translation: cells, info. No condition.
-/
import Derived.Test.YthoaneleeabadaaGreatProg
import Derived.Test.YthoaneleeabadaaGreatSxS
namespace Go.Proofs.YthoaneleeabadaaGreat
open Go.Sx
set_option maxRecDepth 100000
@[simp] theorem cellsOf0 : Tryz.prog.cellsOf 0 = 1 := by kernel_rfl
@[simp] theorem info0 : Tryz.prog.info? 0 = some Tryz.t0 := by kernel_rfl
@[simp] theorem cellsOf1 : Tryz.prog.cellsOf 1 = 1 := by kernel_rfl
@[simp] theorem info1 : Tryz.prog.info? 1 = some Tryz.t1 := by kernel_rfl
@[simp] theorem zok1 : zeroOk Tryz.prog 1 := zok_mk info1 rfl
@[simp] theorem cellsOf2 : Tryz.prog.cellsOf 2 = 1 := by kernel_rfl
@[simp] theorem info2 : Tryz.prog.info? 2 = some Tryz.t2 := by kernel_rfl
@[simp] theorem zok2 : zeroOk Tryz.prog 2 := zok_mk info2 rfl
@[simp] theorem cellsOf3 : Tryz.prog.cellsOf 3 = 1 := by kernel_rfl
@[simp] theorem info3 : Tryz.prog.info? 3 = some Tryz.t3 := by kernel_rfl
@[simp] theorem zok3 : zeroOk Tryz.prog 3 := zok_mk info3 rfl
@[simp] theorem cellsOf4 : Tryz.prog.cellsOf 4 = 1 := by kernel_rfl
@[simp] theorem info4 : Tryz.prog.info? 4 = some Tryz.t4 := by kernel_rfl
@[simp] theorem zok4 : zeroOk Tryz.prog 4 := zok_mk info4 rfl
@[simp] theorem cellsOf5 : Tryz.prog.cellsOf 5 = 1 := by kernel_rfl
@[simp] theorem info5 : Tryz.prog.info? 5 = some Tryz.t5 := by kernel_rfl
@[simp] theorem zok5 : zeroOk Tryz.prog 5 := zok_mk info5 rfl
@[simp] theorem cellsOf6 : Tryz.prog.cellsOf 6 = 1 := by kernel_rfl
@[simp] theorem info6 : Tryz.prog.info? 6 = some Tryz.t6 := by kernel_rfl
@[simp] theorem zok6 : zeroOk Tryz.prog 6 := zok_mk info6 rfl
@[simp] theorem cellsOf7 : Tryz.prog.cellsOf 7 = 4 := by kernel_rfl
@[simp] theorem info7 : Tryz.prog.info? 7 = some Tryz.t7 := by kernel_rfl
@[simp] theorem zok7 : zeroOk Tryz.prog 7 := zok_mk info7 rfl
@[simp] theorem cellsOf8 : Tryz.prog.cellsOf 8 = 4 := by kernel_rfl
@[simp] theorem info8 : Tryz.prog.info? 8 = some Tryz.t8 := by kernel_rfl
@[simp] theorem zok8 : zeroOk Tryz.prog 8 := zok_mk info8 rfl
@[simp] theorem cellsOf9 : Tryz.prog.cellsOf 9 = 1 := by kernel_rfl
@[simp] theorem info9 : Tryz.prog.info? 9 = some Tryz.t9 := by kernel_rfl
@[simp] theorem zok9 : zeroOk Tryz.prog 9 := zok_mk info9 rfl
@[simp] theorem cellsOf10 : Tryz.prog.cellsOf 10 = 1 := by kernel_rfl
@[simp] theorem info10 : Tryz.prog.info? 10 = some Tryz.t10 := by kernel_rfl
@[simp] theorem zok10 : zeroOk Tryz.prog 10 := zok_mk info10 rfl
@[simp] theorem cellsOf11 : Tryz.prog.cellsOf 11 = 1 := by kernel_rfl
@[simp] theorem info11 : Tryz.prog.info? 11 = some Tryz.t11 := by kernel_rfl
@[simp] theorem zok11 : zeroOk Tryz.prog 11 := zok_mk info11 rfl
@[simp] theorem cellsOf12 : Tryz.prog.cellsOf 12 = 1 := by kernel_rfl
@[simp] theorem info12 : Tryz.prog.info? 12 = some Tryz.t12 := by kernel_rfl
@[simp] theorem zok12 : zeroOk Tryz.prog 12 := zok_mk info12 rfl
@[simp] theorem cellsOf13 : Tryz.prog.cellsOf 13 = 2 := by kernel_rfl
@[simp] theorem info13 : Tryz.prog.info? 13 = some Tryz.t13 := by kernel_rfl
@[simp] theorem zok13 : zeroOk Tryz.prog 13 := zok_mk info13 rfl
@[simp] theorem cellsOf14 : Tryz.prog.cellsOf 14 = 2 := by kernel_rfl
@[simp] theorem info14 : Tryz.prog.info? 14 = some Tryz.t14 := by kernel_rfl
@[simp] theorem zok14 : zeroOk Tryz.prog 14 := zok_mk info14 rfl
@[simp] theorem cellsOf15 : Tryz.prog.cellsOf 15 = 1 := by kernel_rfl
@[simp] theorem info15 : Tryz.prog.info? 15 = some Tryz.t15 := by kernel_rfl
@[simp] theorem zok15 : zeroOk Tryz.prog 15 := zok_mk info15 rfl
@[simp] theorem cellsOf16 : Tryz.prog.cellsOf 16 = 1 := by kernel_rfl
@[simp] theorem info16 : Tryz.prog.info? 16 = some Tryz.t16 := by kernel_rfl
@[simp] theorem zok16 : zeroOk Tryz.prog 16 := zok_mk info16 rfl
@[simp] theorem cellsOf17 : Tryz.prog.cellsOf 17 = 1 := by kernel_rfl
@[simp] theorem info17 : Tryz.prog.info? 17 = some Tryz.t17 := by kernel_rfl
@[simp] theorem zok17 : zeroOk Tryz.prog 17 := zok_mk info17 rfl
@[simp] theorem cellsOf18 : Tryz.prog.cellsOf 18 = 1 := by kernel_rfl
@[simp] theorem info18 : Tryz.prog.info? 18 = some Tryz.t18 := by kernel_rfl
@[simp] theorem zok18 : zeroOk Tryz.prog 18 := zok_mk info18 rfl
@[simp] theorem cellsOf19 : Tryz.prog.cellsOf 19 = 1 := by kernel_rfl
@[simp] theorem info19 : Tryz.prog.info? 19 = some Tryz.t19 := by kernel_rfl
@[simp] theorem zok19 : zeroOk Tryz.prog 19 := zok_mk info19 rfl
@[simp] theorem cellsOf20 : Tryz.prog.cellsOf 20 = 1 := by kernel_rfl
@[simp] theorem info20 : Tryz.prog.info? 20 = some Tryz.t20 := by kernel_rfl
@[simp] theorem zok20 : zeroOk Tryz.prog 20 := zok_mk info20 rfl
@[simp] theorem cellsOf21 : Tryz.prog.cellsOf 21 = 1 := by kernel_rfl
@[simp] theorem info21 : Tryz.prog.info? 21 = some Tryz.t21 := by kernel_rfl
@[simp] theorem zok21 : zeroOk Tryz.prog 21 := zok_mk info21 rfl
@[simp] theorem cellsOf22 : Tryz.prog.cellsOf 22 = 1 := by kernel_rfl
@[simp] theorem info22 : Tryz.prog.info? 22 = some Tryz.t22 := by kernel_rfl
@[simp] theorem zok22 : zeroOk Tryz.prog 22 := zok_mk info22 rfl
@[simp] theorem cellsOf23 : Tryz.prog.cellsOf 23 = 1 := by kernel_rfl
@[simp] theorem info23 : Tryz.prog.info? 23 = some Tryz.t23 := by kernel_rfl
@[simp] theorem zok23 : zeroOk Tryz.prog 23 := zok_mk info23 rfl
@[simp] theorem cellsOf24 : Tryz.prog.cellsOf 24 = 2 := by kernel_rfl
@[simp] theorem info24 : Tryz.prog.info? 24 = some Tryz.t24 := by kernel_rfl
@[simp] theorem zok24 : zeroOk Tryz.prog 24 := zok_mk info24 rfl
@[simp] theorem cellsOf25 : Tryz.prog.cellsOf 25 = 2 := by kernel_rfl
@[simp] theorem info25 : Tryz.prog.info? 25 = some Tryz.t25 := by kernel_rfl
@[simp] theorem zok25 : zeroOk Tryz.prog 25 := zok_mk info25 rfl
@[simp] theorem cellsOf26 : Tryz.prog.cellsOf 26 = 3 := by kernel_rfl
@[simp] theorem info26 : Tryz.prog.info? 26 = some Tryz.t26 := by kernel_rfl
@[simp] theorem zok26 : zeroOk Tryz.prog 26 := zok_mk info26 rfl
@[simp] theorem cellsOf27 : Tryz.prog.cellsOf 27 = 3 := by kernel_rfl
@[simp] theorem info27 : Tryz.prog.info? 27 = some Tryz.t27 := by kernel_rfl
@[simp] theorem zok27 : zeroOk Tryz.prog 27 := zok_mk info27 rfl
@[simp] theorem cellsOf28 : Tryz.prog.cellsOf 28 = 2 := by kernel_rfl
@[simp] theorem info28 : Tryz.prog.info? 28 = some Tryz.t28 := by kernel_rfl
@[simp] theorem zok28 : zeroOk Tryz.prog 28 := zok_mk info28 rfl
@[simp] theorem cellsOf29 : Tryz.prog.cellsOf 29 = 3 := by kernel_rfl
@[simp] theorem info29 : Tryz.prog.info? 29 = some Tryz.t29 := by kernel_rfl
@[simp] theorem zok29 : zeroOk Tryz.prog 29 := zok_mk info29 rfl
@[simp] theorem cellsOf30 : Tryz.prog.cellsOf 30 = 3 := by kernel_rfl
@[simp] theorem info30 : Tryz.prog.info? 30 = some Tryz.t30 := by kernel_rfl
@[simp] theorem zok30 : zeroOk Tryz.prog 30 := zok_mk info30 rfl
@[simp] theorem cellsOf31 : Tryz.prog.cellsOf 31 = 1 := by kernel_rfl
@[simp] theorem info31 : Tryz.prog.info? 31 = some Tryz.t31 := by kernel_rfl
@[simp] theorem zok31 : zeroOk Tryz.prog 31 := zok_mk info31 rfl
@[simp] theorem cellsOf32 : Tryz.prog.cellsOf 32 = 1 := by kernel_rfl
@[simp] theorem info32 : Tryz.prog.info? 32 = some Tryz.t32 := by kernel_rfl
@[simp] theorem zok32 : zeroOk Tryz.prog 32 := zok_mk info32 rfl
@[simp] theorem cellsOf33 : Tryz.prog.cellsOf 33 = 1 := by kernel_rfl
@[simp] theorem info33 : Tryz.prog.info? 33 = some Tryz.t33 := by kernel_rfl
@[simp] theorem zok33 : zeroOk Tryz.prog 33 := zok_mk info33 rfl
@[simp] theorem cellsOf34 : Tryz.prog.cellsOf 34 = 1 := by kernel_rfl
@[simp] theorem info34 : Tryz.prog.info? 34 = some Tryz.t34 := by kernel_rfl
@[simp] theorem cellsOf35 : Tryz.prog.cellsOf 35 = 1 := by kernel_rfl
@[simp] theorem info35 : Tryz.prog.info? 35 = some Tryz.t35 := by kernel_rfl
@[simp] theorem zok35 : zeroOk Tryz.prog 35 := zok_mk info35 rfl
@[simp] theorem cellsOf36 : Tryz.prog.cellsOf 36 = 1 := by kernel_rfl
@[simp] theorem info36 : Tryz.prog.info? 36 = some Tryz.t36 := by kernel_rfl
@[simp] theorem zok36 : zeroOk Tryz.prog 36 := zok_mk info36 rfl
@[simp] theorem cellsOf37 : Tryz.prog.cellsOf 37 = 1 := by kernel_rfl
@[simp] theorem info37 : Tryz.prog.info? 37 = some Tryz.t37 := by kernel_rfl
@[simp] theorem zok37 : zeroOk Tryz.prog 37 := zok_mk info37 rfl
@[simp] theorem cellsOf38 : Tryz.prog.cellsOf 38 = 1 := by kernel_rfl
@[simp] theorem info38 : Tryz.prog.info? 38 = some Tryz.t38 := by kernel_rfl
@[simp] theorem zok38 : zeroOk Tryz.prog 38 := zok_mk info38 rfl
@[simp] theorem cellsOf39 : Tryz.prog.cellsOf 39 = 1 := by kernel_rfl
@[simp] theorem info39 : Tryz.prog.info? 39 = some Tryz.t39 := by kernel_rfl
@[simp] theorem zok39 : zeroOk Tryz.prog 39 := zok_mk info39 rfl
@[simp] theorem cellsOf40 : Tryz.prog.cellsOf 40 = 1 := by kernel_rfl
@[simp] theorem info40 : Tryz.prog.info? 40 = some Tryz.t40 := by kernel_rfl
@[simp] theorem zok40 : zeroOk Tryz.prog 40 := zok_mk info40 rfl
@[simp] theorem cellsOf41 : Tryz.prog.cellsOf 41 = 1 := by kernel_rfl
@[simp] theorem info41 : Tryz.prog.info? 41 = some Tryz.t41 := by kernel_rfl
@[simp] theorem zok41 : zeroOk Tryz.prog 41 := zok_mk info41 rfl
@[simp] theorem cellsOf42 : Tryz.prog.cellsOf 42 = 1 := by kernel_rfl
@[simp] theorem info42 : Tryz.prog.info? 42 = some Tryz.t42 := by kernel_rfl
@[simp] theorem zok42 : zeroOk Tryz.prog 42 := zok_mk info42 rfl
@[simp] theorem cellsOf43 : Tryz.prog.cellsOf 43 = 1 := by kernel_rfl
@[simp] theorem info43 : Tryz.prog.info? 43 = some Tryz.t43 := by kernel_rfl
@[simp] theorem zok43 : zeroOk Tryz.prog 43 := zok_mk info43 rfl
@[simp] theorem cellsOf44 : Tryz.prog.cellsOf 44 = 1 := by kernel_rfl
@[simp] theorem info44 : Tryz.prog.info? 44 = some Tryz.t44 := by kernel_rfl
@[simp] theorem zok44 : zeroOk Tryz.prog 44 := zok_mk info44 rfl
@[simp] theorem cellsOf45 : Tryz.prog.cellsOf 45 = 1 := by kernel_rfl
@[simp] theorem info45 : Tryz.prog.info? 45 = some Tryz.t45 := by kernel_rfl
@[simp] theorem zok45 : zeroOk Tryz.prog 45 := zok_mk info45 rfl
@[simp] theorem cellsOf46 : Tryz.prog.cellsOf 46 = 32 := by kernel_rfl
@[simp] theorem info46 : Tryz.prog.info? 46 = some Tryz.t46 := by kernel_rfl
@[simp] theorem zok46 : zeroOk Tryz.prog 46 := zok_mk info46 rfl
@[simp] theorem cellsOf47 : Tryz.prog.cellsOf 47 = 1 := by kernel_rfl
@[simp] theorem info47 : Tryz.prog.info? 47 = some Tryz.t47 := by kernel_rfl
@[simp] theorem zok47 : zeroOk Tryz.prog 47 := zok_mk info47 rfl
@[simp] theorem cellsOf48 : Tryz.prog.cellsOf 48 = 1 := by kernel_rfl
@[simp] theorem info48 : Tryz.prog.info? 48 = some Tryz.t48 := by kernel_rfl
@[simp] theorem zok48 : zeroOk Tryz.prog 48 := zok_mk info48 rfl
@[simp] theorem cellsOf49 : Tryz.prog.cellsOf 49 = 1 := by kernel_rfl
@[simp] theorem info49 : Tryz.prog.info? 49 = some Tryz.t49 := by kernel_rfl
@[simp] theorem cellsOf50 : Tryz.prog.cellsOf 50 = 1 := by kernel_rfl
@[simp] theorem info50 : Tryz.prog.info? 50 = some Tryz.t50 := by kernel_rfl
@[simp] theorem zok50 : zeroOk Tryz.prog 50 := zok_mk info50 rfl
@[simp] theorem cellsOf51 : Tryz.prog.cellsOf 51 = 1 := by kernel_rfl
@[simp] theorem info51 : Tryz.prog.info? 51 = some Tryz.t51 := by kernel_rfl
@[simp] theorem zok51 : zeroOk Tryz.prog 51 := zok_mk info51 rfl
@[simp] theorem cellsOf52 : Tryz.prog.cellsOf 52 = 1 := by kernel_rfl
@[simp] theorem info52 : Tryz.prog.info? 52 = some Tryz.t52 := by kernel_rfl
@[simp] theorem zok52 : zeroOk Tryz.prog 52 := zok_mk info52 rfl
@[simp] theorem cellsOf53 : Tryz.prog.cellsOf 53 = 1 := by kernel_rfl
@[simp] theorem info53 : Tryz.prog.info? 53 = some Tryz.t53 := by kernel_rfl
@[simp] theorem zok53 : zeroOk Tryz.prog 53 := zok_mk info53 rfl
@[simp] theorem cellsOf54 : Tryz.prog.cellsOf 54 = 1 := by kernel_rfl
@[simp] theorem info54 : Tryz.prog.info? 54 = some Tryz.t54 := by kernel_rfl
@[simp] theorem zok54 : zeroOk Tryz.prog 54 := zok_mk info54 rfl
@[simp] theorem cellsOf55 : Tryz.prog.cellsOf 55 = 1 := by kernel_rfl
@[simp] theorem info55 : Tryz.prog.info? 55 = some Tryz.t55 := by kernel_rfl
@[simp] theorem cellsOf56 : Tryz.prog.cellsOf 56 = 1 := by kernel_rfl
@[simp] theorem info56 : Tryz.prog.info? 56 = some Tryz.t56 := by kernel_rfl
@[simp] theorem zok56 : zeroOk Tryz.prog 56 := zok_mk info56 rfl
@[simp] theorem cellsOf57 : Tryz.prog.cellsOf 57 = 1 := by kernel_rfl
@[simp] theorem info57 : Tryz.prog.info? 57 = some Tryz.t57 := by kernel_rfl
@[simp] theorem zok57 : zeroOk Tryz.prog 57 := zok_mk info57 rfl
@[simp] theorem cellsOf58 : Tryz.prog.cellsOf 58 = 1 := by kernel_rfl
@[simp] theorem info58 : Tryz.prog.info? 58 = some Tryz.t58 := by kernel_rfl
@[simp] theorem zok58 : zeroOk Tryz.prog 58 := zok_mk info58 rfl
@[simp] theorem cellsOf59 : Tryz.prog.cellsOf 59 = 1 := by kernel_rfl
@[simp] theorem info59 : Tryz.prog.info? 59 = some Tryz.t59 := by kernel_rfl
@[simp] theorem zok59 : zeroOk Tryz.prog 59 := zok_mk info59 rfl
@[simp] theorem cellsOf60 : Tryz.prog.cellsOf 60 = 1 := by kernel_rfl
@[simp] theorem info60 : Tryz.prog.info? 60 = some Tryz.t60 := by kernel_rfl
@[simp] theorem zok60 : zeroOk Tryz.prog 60 := zok_mk info60 rfl
@[simp] theorem cellsOf61 : Tryz.prog.cellsOf 61 = 1 := by kernel_rfl
@[simp] theorem info61 : Tryz.prog.info? 61 = some Tryz.t61 := by kernel_rfl
@[simp] theorem zok61 : zeroOk Tryz.prog 61 := zok_mk info61 rfl
@[simp] theorem cellsOf62 : Tryz.prog.cellsOf 62 = 1 := by kernel_rfl
@[simp] theorem info62 : Tryz.prog.info? 62 = some Tryz.t62 := by kernel_rfl
@[simp] theorem cellsOf63 : Tryz.prog.cellsOf 63 = 1 := by kernel_rfl
@[simp] theorem info63 : Tryz.prog.info? 63 = some Tryz.t63 := by kernel_rfl
@[simp] theorem zok63 : zeroOk Tryz.prog 63 := zok_mk info63 rfl
@[simp] theorem cellsOf64 : Tryz.prog.cellsOf 64 = 4 := by kernel_rfl
@[simp] theorem info64 : Tryz.prog.info? 64 = some Tryz.t64 := by kernel_rfl
@[simp] theorem zok64 : zeroOk Tryz.prog 64 := zok_mk info64 rfl
@[simp] theorem cellsOf65 : Tryz.prog.cellsOf 65 = 4 := by kernel_rfl
@[simp] theorem info65 : Tryz.prog.info? 65 = some Tryz.t65 := by kernel_rfl
@[simp] theorem zok65 : zeroOk Tryz.prog 65 := zok_mk info65 rfl
@[simp] theorem cellsOf66 : Tryz.prog.cellsOf 66 = 1 := by kernel_rfl
@[simp] theorem info66 : Tryz.prog.info? 66 = some Tryz.t66 := by kernel_rfl
@[simp] theorem cellsOf67 : Tryz.prog.cellsOf 67 = 1 := by kernel_rfl
@[simp] theorem info67 : Tryz.prog.info? 67 = some Tryz.t67 := by kernel_rfl
@[simp] theorem zok67 : zeroOk Tryz.prog 67 := zok_mk info67 rfl
@[simp] theorem cellsOf68 : Tryz.prog.cellsOf 68 = 4 := by kernel_rfl
@[simp] theorem info68 : Tryz.prog.info? 68 = some Tryz.t68 := by kernel_rfl
@[simp] theorem zok68 : zeroOk Tryz.prog 68 := zok_mk info68 rfl
@[simp] theorem cellsOf69 : Tryz.prog.cellsOf 69 = 4 := by kernel_rfl
@[simp] theorem info69 : Tryz.prog.info? 69 = some Tryz.t69 := by kernel_rfl
@[simp] theorem zok69 : zeroOk Tryz.prog 69 := zok_mk info69 rfl
@[simp] theorem cellsOf70 : Tryz.prog.cellsOf 70 = 1 := by kernel_rfl
@[simp] theorem info70 : Tryz.prog.info? 70 = some Tryz.t70 := by kernel_rfl
@[simp] theorem cellsOf71 : Tryz.prog.cellsOf 71 = 1 := by kernel_rfl
@[simp] theorem info71 : Tryz.prog.info? 71 = some Tryz.t71 := by kernel_rfl
@[simp] theorem zok71 : zeroOk Tryz.prog 71 := zok_mk info71 rfl
@[simp] theorem cellsOf72 : Tryz.prog.cellsOf 72 = 1 := by kernel_rfl
@[simp] theorem info72 : Tryz.prog.info? 72 = some Tryz.t72 := by kernel_rfl
@[simp] theorem zok72 : zeroOk Tryz.prog 72 := zok_mk info72 rfl
@[simp] theorem cellsOf73 : Tryz.prog.cellsOf 73 = 1 := by kernel_rfl
@[simp] theorem info73 : Tryz.prog.info? 73 = some Tryz.t73 := by kernel_rfl
@[simp] theorem zok73 : zeroOk Tryz.prog 73 := zok_mk info73 rfl
@[simp] theorem cellsOf74 : Tryz.prog.cellsOf 74 = 1 := by kernel_rfl
@[simp] theorem info74 : Tryz.prog.info? 74 = some Tryz.t74 := by kernel_rfl
@[simp] theorem zok74 : zeroOk Tryz.prog 74 := zok_mk info74 rfl
@[simp] theorem cellsOf75 : Tryz.prog.cellsOf 75 = 1 := by kernel_rfl
@[simp] theorem info75 : Tryz.prog.info? 75 = some Tryz.t75 := by kernel_rfl
@[simp] theorem zok75 : zeroOk Tryz.prog 75 := zok_mk info75 rfl
@[simp] theorem cellsOf76 : Tryz.prog.cellsOf 76 = 1 := by kernel_rfl
@[simp] theorem info76 : Tryz.prog.info? 76 = some Tryz.t76 := by kernel_rfl
@[simp] theorem zok76 : zeroOk Tryz.prog 76 := zok_mk info76 rfl
@[simp] theorem cellsOf77 : Tryz.prog.cellsOf 77 = 1 := by kernel_rfl
@[simp] theorem info77 : Tryz.prog.info? 77 = some Tryz.t77 := by kernel_rfl
@[simp] theorem zok77 : zeroOk Tryz.prog 77 := zok_mk info77 rfl
@[simp] theorem cellsOf78 : Tryz.prog.cellsOf 78 = 2 := by kernel_rfl
@[simp] theorem info78 : Tryz.prog.info? 78 = some Tryz.t78 := by kernel_rfl
@[simp] theorem zok78 : zeroOk Tryz.prog 78 := zok_mk info78 rfl
@[simp] theorem cellsOf79 : Tryz.prog.cellsOf 79 = 2 := by kernel_rfl
@[simp] theorem info79 : Tryz.prog.info? 79 = some Tryz.t79 := by kernel_rfl
@[simp] theorem zok79 : zeroOk Tryz.prog 79 := zok_mk info79 rfl
@[simp] theorem cellsOf80 : Tryz.prog.cellsOf 80 = 1 := by kernel_rfl
@[simp] theorem info80 : Tryz.prog.info? 80 = some Tryz.t80 := by kernel_rfl
@[simp] theorem zok80 : zeroOk Tryz.prog 80 := zok_mk info80 rfl
@[simp] theorem cellsOf81 : Tryz.prog.cellsOf 81 = 1 := by kernel_rfl
@[simp] theorem info81 : Tryz.prog.info? 81 = some Tryz.t81 := by kernel_rfl
@[simp] theorem zok81 : zeroOk Tryz.prog 81 := zok_mk info81 rfl
@[simp] theorem cellsOf82 : Tryz.prog.cellsOf 82 = 1 := by kernel_rfl
@[simp] theorem info82 : Tryz.prog.info? 82 = some Tryz.t82 := by kernel_rfl
@[simp] theorem zok82 : zeroOk Tryz.prog 82 := zok_mk info82 rfl
@[simp] theorem cellsOf83 : Tryz.prog.cellsOf 83 = 1 := by kernel_rfl
@[simp] theorem info83 : Tryz.prog.info? 83 = some Tryz.t83 := by kernel_rfl
@[simp] theorem zok83 : zeroOk Tryz.prog 83 := zok_mk info83 rfl
@[simp] theorem cellsOf84 : Tryz.prog.cellsOf 84 = 1 := by kernel_rfl
@[simp] theorem info84 : Tryz.prog.info? 84 = some Tryz.t84 := by kernel_rfl
@[simp] theorem zok84 : zeroOk Tryz.prog 84 := zok_mk info84 rfl
@[simp] theorem cellsOf85 : Tryz.prog.cellsOf 85 = 1 := by kernel_rfl
@[simp] theorem info85 : Tryz.prog.info? 85 = some Tryz.t85 := by kernel_rfl
@[simp] theorem cellsOf86 : Tryz.prog.cellsOf 86 = 1 := by kernel_rfl
@[simp] theorem info86 : Tryz.prog.info? 86 = some Tryz.t86 := by kernel_rfl
@[simp] theorem zok86 : zeroOk Tryz.prog 86 := zok_mk info86 rfl
@[simp] theorem cellsOf87 : Tryz.prog.cellsOf 87 = 1 := by kernel_rfl
@[simp] theorem info87 : Tryz.prog.info? 87 = some Tryz.t87 := by kernel_rfl
@[simp] theorem zok87 : zeroOk Tryz.prog 87 := zok_mk info87 rfl
@[simp] theorem cellsOf88 : Tryz.prog.cellsOf 88 = 1 := by kernel_rfl
@[simp] theorem info88 : Tryz.prog.info? 88 = some Tryz.t88 := by kernel_rfl
@[simp] theorem zok88 : zeroOk Tryz.prog 88 := zok_mk info88 rfl
@[simp] theorem cellsOf89 : Tryz.prog.cellsOf 89 = 2 := by kernel_rfl
@[simp] theorem info89 : Tryz.prog.info? 89 = some Tryz.t89 := by kernel_rfl
@[simp] theorem zok89 : zeroOk Tryz.prog 89 := zok_mk info89 rfl
@[simp] theorem cellsOf90 : Tryz.prog.cellsOf 90 = 1 := by kernel_rfl
@[simp] theorem info90 : Tryz.prog.info? 90 = some Tryz.t90 := by kernel_rfl
@[simp] theorem cellsOf91 : Tryz.prog.cellsOf 91 = 1 := by kernel_rfl
@[simp] theorem info91 : Tryz.prog.info? 91 = some Tryz.t91 := by kernel_rfl
@[simp] theorem zok91 : zeroOk Tryz.prog 91 := zok_mk info91 rfl
@[simp] theorem cellsOf92 : Tryz.prog.cellsOf 92 = 1 := by kernel_rfl
@[simp] theorem info92 : Tryz.prog.info? 92 = some Tryz.t92 := by kernel_rfl
@[simp] theorem zok92 : zeroOk Tryz.prog 92 := zok_mk info92 rfl
@[simp] theorem cellsOf93 : Tryz.prog.cellsOf 93 = 1 := by kernel_rfl
@[simp] theorem info93 : Tryz.prog.info? 93 = some Tryz.t93 := by kernel_rfl
@[simp] theorem zok93 : zeroOk Tryz.prog 93 := zok_mk info93 rfl
@[simp] theorem cellsOf94 : Tryz.prog.cellsOf 94 = 1 := by kernel_rfl
@[simp] theorem info94 : Tryz.prog.info? 94 = some Tryz.t94 := by kernel_rfl
@[simp] theorem zok94 : zeroOk Tryz.prog 94 := zok_mk info94 rfl
@[simp] theorem cellsOf95 : Tryz.prog.cellsOf 95 = 1 := by kernel_rfl
@[simp] theorem info95 : Tryz.prog.info? 95 = some Tryz.t95 := by kernel_rfl
@[simp] theorem zok95 : zeroOk Tryz.prog 95 := zok_mk info95 rfl
@[simp] theorem cellsOf96 : Tryz.prog.cellsOf 96 = 1 := by kernel_rfl
@[simp] theorem info96 : Tryz.prog.info? 96 = some Tryz.t96 := by kernel_rfl
@[simp] theorem zok96 : zeroOk Tryz.prog 96 := zok_mk info96 rfl
@[simp] theorem cellsOf97 : Tryz.prog.cellsOf 97 = 1 := by kernel_rfl
@[simp] theorem info97 : Tryz.prog.info? 97 = some Tryz.t97 := by kernel_rfl
@[simp] theorem zok97 : zeroOk Tryz.prog 97 := zok_mk info97 rfl
@[simp] theorem cellsOf98 : Tryz.prog.cellsOf 98 = 1 := by kernel_rfl
@[simp] theorem info98 : Tryz.prog.info? 98 = some Tryz.t98 := by kernel_rfl
@[simp] theorem zok98 : zeroOk Tryz.prog 98 := zok_mk info98 rfl
@[simp] theorem cellsOf99 : Tryz.prog.cellsOf 99 = 1 := by kernel_rfl
@[simp] theorem info99 : Tryz.prog.info? 99 = some Tryz.t99 := by kernel_rfl
@[simp] theorem zok99 : zeroOk Tryz.prog 99 := zok_mk info99 rfl
@[simp] theorem cellsOf100 : Tryz.prog.cellsOf 100 = 1 := by kernel_rfl
@[simp] theorem info100 : Tryz.prog.info? 100 = some Tryz.t100 := by kernel_rfl
@[simp] theorem zok100 : zeroOk Tryz.prog 100 := zok_mk info100 rfl
@[simp] theorem cellsOf101 : Tryz.prog.cellsOf 101 = 1 := by kernel_rfl
@[simp] theorem info101 : Tryz.prog.info? 101 = some Tryz.t101 := by kernel_rfl
@[simp] theorem zok101 : zeroOk Tryz.prog 101 := zok_mk info101 rfl
@[simp] theorem cellsOf102 : Tryz.prog.cellsOf 102 = 1 := by kernel_rfl
@[simp] theorem info102 : Tryz.prog.info? 102 = some Tryz.t102 := by kernel_rfl
@[simp] theorem zok102 : zeroOk Tryz.prog 102 := zok_mk info102 rfl
@[simp] theorem cellsOf103 : Tryz.prog.cellsOf 103 = 1 := by kernel_rfl
@[simp] theorem info103 : Tryz.prog.info? 103 = some Tryz.t103 := by kernel_rfl
@[simp] theorem zok103 : zeroOk Tryz.prog 103 := zok_mk info103 rfl
@[simp] theorem cellsOf104 : Tryz.prog.cellsOf 104 = 2 := by kernel_rfl
@[simp] theorem info104 : Tryz.prog.info? 104 = some Tryz.t104 := by kernel_rfl
@[simp] theorem zok104 : zeroOk Tryz.prog 104 := zok_mk info104 rfl
@[simp] theorem cellsOf105 : Tryz.prog.cellsOf 105 = 2 := by kernel_rfl
@[simp] theorem info105 : Tryz.prog.info? 105 = some Tryz.t105 := by kernel_rfl
@[simp] theorem zok105 : zeroOk Tryz.prog 105 := zok_mk info105 rfl
@[simp] theorem cellsOf106 : Tryz.prog.cellsOf 106 = 1 := by kernel_rfl
@[simp] theorem info106 : Tryz.prog.info? 106 = some Tryz.t106 := by kernel_rfl
@[simp] theorem zok106 : zeroOk Tryz.prog 106 := zok_mk info106 rfl
@[simp] theorem cellsOf107 : Tryz.prog.cellsOf 107 = 1 := by kernel_rfl
@[simp] theorem info107 : Tryz.prog.info? 107 = some Tryz.t107 := by kernel_rfl
@[simp] theorem zok107 : zeroOk Tryz.prog 107 := zok_mk info107 rfl
@[simp] theorem cellsOf108 : Tryz.prog.cellsOf 108 = 1 := by kernel_rfl
@[simp] theorem info108 : Tryz.prog.info? 108 = some Tryz.t108 := by kernel_rfl
@[simp] theorem zok108 : zeroOk Tryz.prog 108 := zok_mk info108 rfl
@[simp] theorem cellsOf109 : Tryz.prog.cellsOf 109 = 1 := by kernel_rfl
@[simp] theorem info109 : Tryz.prog.info? 109 = some Tryz.t109 := by kernel_rfl
@[simp] theorem zok109 : zeroOk Tryz.prog 109 := zok_mk info109 rfl
@[simp] theorem cellsOf110 : Tryz.prog.cellsOf 110 = 1 := by kernel_rfl
@[simp] theorem info110 : Tryz.prog.info? 110 = some Tryz.t110 := by kernel_rfl
@[simp] theorem zok110 : zeroOk Tryz.prog 110 := zok_mk info110 rfl
@[simp] theorem cellsOf111 : Tryz.prog.cellsOf 111 = 1 := by kernel_rfl
@[simp] theorem info111 : Tryz.prog.info? 111 = some Tryz.t111 := by kernel_rfl
@[simp] theorem zok111 : zeroOk Tryz.prog 111 := zok_mk info111 rfl
@[simp] theorem cellsOf112 : Tryz.prog.cellsOf 112 = 1 := by kernel_rfl
@[simp] theorem info112 : Tryz.prog.info? 112 = some Tryz.t112 := by kernel_rfl
@[simp] theorem zok112 : zeroOk Tryz.prog 112 := zok_mk info112 rfl
@[simp] theorem cellsOf113 : Tryz.prog.cellsOf 113 = 1 := by kernel_rfl
@[simp] theorem info113 : Tryz.prog.info? 113 = some Tryz.t113 := by kernel_rfl
@[simp] theorem cellsOf114 : Tryz.prog.cellsOf 114 = 1 := by kernel_rfl
@[simp] theorem info114 : Tryz.prog.info? 114 = some Tryz.t114 := by kernel_rfl
@[simp] theorem zok114 : zeroOk Tryz.prog 114 := zok_mk info114 rfl
@[simp] theorem cellsOf115 : Tryz.prog.cellsOf 115 = 1 := by kernel_rfl
@[simp] theorem info115 : Tryz.prog.info? 115 = some Tryz.t115 := by kernel_rfl
@[simp] theorem cellsOf116 : Tryz.prog.cellsOf 116 = 1 := by kernel_rfl
@[simp] theorem info116 : Tryz.prog.info? 116 = some Tryz.t116 := by kernel_rfl
@[simp] theorem zok116 : zeroOk Tryz.prog 116 := zok_mk info116 rfl
@[simp] theorem cellsOf117 : Tryz.prog.cellsOf 117 = 1 := by kernel_rfl
@[simp] theorem info117 : Tryz.prog.info? 117 = some Tryz.t117 := by kernel_rfl
@[simp] theorem zok117 : zeroOk Tryz.prog 117 := zok_mk info117 rfl
@[simp] theorem cellsOf118 : Tryz.prog.cellsOf 118 = 1 := by kernel_rfl
@[simp] theorem info118 : Tryz.prog.info? 118 = some Tryz.t118 := by kernel_rfl
@[simp] theorem zok118 : zeroOk Tryz.prog 118 := zok_mk info118 rfl
@[simp] theorem cellsOf119 : Tryz.prog.cellsOf 119 = 1 := by kernel_rfl
@[simp] theorem info119 : Tryz.prog.info? 119 = some Tryz.t119 := by kernel_rfl
@[simp] theorem zok119 : zeroOk Tryz.prog 119 := zok_mk info119 rfl
@[simp] theorem cellsOf120 : Tryz.prog.cellsOf 120 = 8 := by kernel_rfl
@[simp] theorem info120 : Tryz.prog.info? 120 = some Tryz.t120 := by kernel_rfl
@[simp] theorem zok120 : zeroOk Tryz.prog 120 := zok_mk info120 rfl
@[simp] theorem cellsOf121 : Tryz.prog.cellsOf 121 = 1 := by kernel_rfl
@[simp] theorem info121 : Tryz.prog.info? 121 = some Tryz.t121 := by kernel_rfl
@[simp] theorem zok121 : zeroOk Tryz.prog 121 := zok_mk info121 rfl
@[simp] theorem cellsOf122 : Tryz.prog.cellsOf 122 = 64 := by kernel_rfl
@[simp] theorem info122 : Tryz.prog.info? 122 = some Tryz.t122 := by kernel_rfl
@[simp] theorem zok122 : zeroOk Tryz.prog 122 := zok_mk info122 rfl
@[simp] theorem cellsOf123 : Tryz.prog.cellsOf 123 = 8 := by kernel_rfl
@[simp] theorem info123 : Tryz.prog.info? 123 = some Tryz.t123 := by kernel_rfl
@[simp] theorem zok123 : zeroOk Tryz.prog 123 := zok_mk info123 rfl
@[simp] theorem cellsOf124 : Tryz.prog.cellsOf 124 = 1 := by kernel_rfl
@[simp] theorem info124 : Tryz.prog.info? 124 = some Tryz.t124 := by kernel_rfl
@[simp] theorem zok124 : zeroOk Tryz.prog 124 := zok_mk info124 rfl
@[simp] theorem cellsOf125 : Tryz.prog.cellsOf 125 = 1 := by kernel_rfl
@[simp] theorem info125 : Tryz.prog.info? 125 = some Tryz.t125 := by kernel_rfl
@[simp] theorem zok125 : zeroOk Tryz.prog 125 := zok_mk info125 rfl
@[simp] theorem cellsOf126 : Tryz.prog.cellsOf 126 = 1 := by kernel_rfl
@[simp] theorem info126 : Tryz.prog.info? 126 = some Tryz.t126 := by kernel_rfl
@[simp] theorem cellsOf127 : Tryz.prog.cellsOf 127 = 1 := by kernel_rfl
@[simp] theorem info127 : Tryz.prog.info? 127 = some Tryz.t127 := by kernel_rfl
@[simp] theorem zok127 : zeroOk Tryz.prog 127 := zok_mk info127 rfl
@[simp] theorem cellsOf128 : Tryz.prog.cellsOf 128 = 1 := by kernel_rfl
@[simp] theorem info128 : Tryz.prog.info? 128 = some Tryz.t128 := by kernel_rfl
@[simp] theorem zok128 : zeroOk Tryz.prog 128 := zok_mk info128 rfl
@[simp] theorem cellsOf129 : Tryz.prog.cellsOf 129 = 1 := by kernel_rfl
@[simp] theorem info129 : Tryz.prog.info? 129 = some Tryz.t129 := by kernel_rfl
@[simp] theorem zok129 : zeroOk Tryz.prog 129 := zok_mk info129 rfl
@[simp] theorem cellsOf130 : Tryz.prog.cellsOf 130 = 1 := by kernel_rfl
@[simp] theorem info130 : Tryz.prog.info? 130 = some Tryz.t130 := by kernel_rfl
@[simp] theorem zok130 : zeroOk Tryz.prog 130 := zok_mk info130 rfl
@[simp] theorem cellsOf131 : Tryz.prog.cellsOf 131 = 1 := by kernel_rfl
@[simp] theorem info131 : Tryz.prog.info? 131 = some Tryz.t131 := by kernel_rfl
@[simp] theorem zok131 : zeroOk Tryz.prog 131 := zok_mk info131 rfl
@[simp] theorem cellsOf132 : Tryz.prog.cellsOf 132 = 2 := by kernel_rfl
@[simp] theorem info132 : Tryz.prog.info? 132 = some Tryz.t132 := by kernel_rfl
@[simp] theorem zok132 : zeroOk Tryz.prog 132 := zok_mk info132 rfl
@[simp] theorem cellsOf133 : Tryz.prog.cellsOf 133 = 2 := by kernel_rfl
@[simp] theorem info133 : Tryz.prog.info? 133 = some Tryz.t133 := by kernel_rfl
@[simp] theorem zok133 : zeroOk Tryz.prog 133 := zok_mk info133 rfl
@[simp] theorem cellsOf134 : Tryz.prog.cellsOf 134 = 1 := by kernel_rfl
@[simp] theorem info134 : Tryz.prog.info? 134 = some Tryz.t134 := by kernel_rfl
@[simp] theorem zok134 : zeroOk Tryz.prog 134 := zok_mk info134 rfl
@[simp] theorem cellsOf135 : Tryz.prog.cellsOf 135 = 1 := by kernel_rfl
@[simp] theorem info135 : Tryz.prog.info? 135 = some Tryz.t135 := by kernel_rfl
@[simp] theorem zok135 : zeroOk Tryz.prog 135 := zok_mk info135 rfl
@[simp] theorem cellsOf136 : Tryz.prog.cellsOf 136 = 3 := by kernel_rfl
@[simp] theorem info136 : Tryz.prog.info? 136 = some Tryz.t136 := by kernel_rfl
@[simp] theorem zok136 : zeroOk Tryz.prog 136 := zok_mk info136 rfl
@[simp] theorem cellsOf137 : Tryz.prog.cellsOf 137 = 3 := by kernel_rfl
@[simp] theorem info137 : Tryz.prog.info? 137 = some Tryz.t137 := by kernel_rfl
@[simp] theorem zok137 : zeroOk Tryz.prog 137 := zok_mk info137 rfl
@[simp] theorem cellsOf138 : Tryz.prog.cellsOf 138 = 1 := by kernel_rfl
@[simp] theorem info138 : Tryz.prog.info? 138 = some Tryz.t138 := by kernel_rfl
@[simp] theorem zok138 : zeroOk Tryz.prog 138 := zok_mk info138 rfl
@[simp] theorem cellsOf139 : Tryz.prog.cellsOf 139 = 1 := by kernel_rfl
@[simp] theorem info139 : Tryz.prog.info? 139 = some Tryz.t139 := by kernel_rfl
@[simp] theorem zok139 : zeroOk Tryz.prog 139 := zok_mk info139 rfl
@[simp] theorem cellsOf140 : Tryz.prog.cellsOf 140 = 1 := by kernel_rfl
@[simp] theorem info140 : Tryz.prog.info? 140 = some Tryz.t140 := by kernel_rfl
@[simp] theorem zok140 : zeroOk Tryz.prog 140 := zok_mk info140 rfl
@[simp] theorem cellsOf141 : Tryz.prog.cellsOf 141 = 1 := by kernel_rfl
@[simp] theorem info141 : Tryz.prog.info? 141 = some Tryz.t141 := by kernel_rfl
@[simp] theorem zok141 : zeroOk Tryz.prog 141 := zok_mk info141 rfl
@[simp] theorem cellsOf142 : Tryz.prog.cellsOf 142 = 1 := by kernel_rfl
@[simp] theorem info142 : Tryz.prog.info? 142 = some Tryz.t142 := by kernel_rfl
@[simp] theorem zok142 : zeroOk Tryz.prog 142 := zok_mk info142 rfl
@[simp] theorem cellsOf143 : Tryz.prog.cellsOf 143 = 1 := by kernel_rfl
@[simp] theorem info143 : Tryz.prog.info? 143 = some Tryz.t143 := by kernel_rfl
@[simp] theorem zok143 : zeroOk Tryz.prog 143 := zok_mk info143 rfl
@[simp] theorem cellsOf144 : Tryz.prog.cellsOf 144 = 1 := by kernel_rfl
@[simp] theorem info144 : Tryz.prog.info? 144 = some Tryz.t144 := by kernel_rfl
@[simp] theorem zok144 : zeroOk Tryz.prog 144 := zok_mk info144 rfl
@[simp] theorem cellsOf145 : Tryz.prog.cellsOf 145 = 1 := by kernel_rfl
@[simp] theorem info145 : Tryz.prog.info? 145 = some Tryz.t145 := by kernel_rfl
@[simp] theorem cellsOf146 : Tryz.prog.cellsOf 146 = 1 := by kernel_rfl
@[simp] theorem info146 : Tryz.prog.info? 146 = some Tryz.t146 := by kernel_rfl
@[simp] theorem zok146 : zeroOk Tryz.prog 146 := zok_mk info146 rfl
@[simp] theorem cellsOf147 : Tryz.prog.cellsOf 147 = 1 := by kernel_rfl
@[simp] theorem info147 : Tryz.prog.info? 147 = some Tryz.t147 := by kernel_rfl
@[simp] theorem zok147 : zeroOk Tryz.prog 147 := zok_mk info147 rfl
@[simp] theorem cellsOf148 : Tryz.prog.cellsOf 148 = 1 := by kernel_rfl
@[simp] theorem info148 : Tryz.prog.info? 148 = some Tryz.t148 := by kernel_rfl
@[simp] theorem zok148 : zeroOk Tryz.prog 148 := zok_mk info148 rfl
@[simp] theorem cellsOf149 : Tryz.prog.cellsOf 149 = 1 := by kernel_rfl
@[simp] theorem info149 : Tryz.prog.info? 149 = some Tryz.t149 := by kernel_rfl
@[simp] theorem zok149 : zeroOk Tryz.prog 149 := zok_mk info149 rfl
@[simp] theorem cellsOf150 : Tryz.prog.cellsOf 150 = 1 := by kernel_rfl
@[simp] theorem info150 : Tryz.prog.info? 150 = some Tryz.t150 := by kernel_rfl
@[simp] theorem zok150 : zeroOk Tryz.prog 150 := zok_mk info150 rfl
@[simp] theorem cellsOf151 : Tryz.prog.cellsOf 151 = 1 := by kernel_rfl
@[simp] theorem info151 : Tryz.prog.info? 151 = some Tryz.t151 := by kernel_rfl
@[simp] theorem cellsOf152 : Tryz.prog.cellsOf 152 = 1 := by kernel_rfl
@[simp] theorem info152 : Tryz.prog.info? 152 = some Tryz.t152 := by kernel_rfl
@[simp] theorem zok152 : zeroOk Tryz.prog 152 := zok_mk info152 rfl
@[simp] theorem cellsOf153 : Tryz.prog.cellsOf 153 = 1 := by kernel_rfl
@[simp] theorem info153 : Tryz.prog.info? 153 = some Tryz.t153 := by kernel_rfl
@[simp] theorem cellsOf154 : Tryz.prog.cellsOf 154 = 1 := by kernel_rfl
@[simp] theorem info154 : Tryz.prog.info? 154 = some Tryz.t154 := by kernel_rfl
@[simp] theorem zok154 : zeroOk Tryz.prog 154 := zok_mk info154 rfl
@[simp] theorem cellsOf155 : Tryz.prog.cellsOf 155 = 1 := by kernel_rfl
@[simp] theorem info155 : Tryz.prog.info? 155 = some Tryz.t155 := by kernel_rfl
@[simp] theorem cellsOf156 : Tryz.prog.cellsOf 156 = 1 := by kernel_rfl
@[simp] theorem info156 : Tryz.prog.info? 156 = some Tryz.t156 := by kernel_rfl
@[simp] theorem zok156 : zeroOk Tryz.prog 156 := zok_mk info156 rfl
@[simp] theorem cellsOf157 : Tryz.prog.cellsOf 157 = 1 := by kernel_rfl
@[simp] theorem info157 : Tryz.prog.info? 157 = some Tryz.t157 := by kernel_rfl
@[simp] theorem cellsOf158 : Tryz.prog.cellsOf 158 = 1 := by kernel_rfl
@[simp] theorem info158 : Tryz.prog.info? 158 = some Tryz.t158 := by kernel_rfl
@[simp] theorem zok158 : zeroOk Tryz.prog 158 := zok_mk info158 rfl
@[simp] theorem cellsOf159 : Tryz.prog.cellsOf 159 = 3 := by kernel_rfl
@[simp] theorem info159 : Tryz.prog.info? 159 = some Tryz.t159 := by kernel_rfl
@[simp] theorem zok159 : zeroOk Tryz.prog 159 := zok_mk info159 rfl
@[simp] theorem cellsOf160 : Tryz.prog.cellsOf 160 = 1 := by kernel_rfl
@[simp] theorem info160 : Tryz.prog.info? 160 = some Tryz.t160 := by kernel_rfl
@[simp] theorem zok160 : zeroOk Tryz.prog 160 := zok_mk info160 rfl
@[simp] theorem cellsOf161 : Tryz.prog.cellsOf 161 = 1 := by kernel_rfl
@[simp] theorem info161 : Tryz.prog.info? 161 = some Tryz.t161 := by kernel_rfl
@[simp] theorem zok161 : zeroOk Tryz.prog 161 := zok_mk info161 rfl
@[simp] theorem cellsOf162 : Tryz.prog.cellsOf 162 = 1 := by kernel_rfl
@[simp] theorem info162 : Tryz.prog.info? 162 = some Tryz.t162 := by kernel_rfl
@[simp] theorem cellsOf163 : Tryz.prog.cellsOf 163 = 1 := by kernel_rfl
@[simp] theorem info163 : Tryz.prog.info? 163 = some Tryz.t163 := by kernel_rfl
@[simp] theorem zok163 : zeroOk Tryz.prog 163 := zok_mk info163 rfl
@[simp] theorem cellsOf164 : Tryz.prog.cellsOf 164 = 1 := by kernel_rfl
@[simp] theorem info164 : Tryz.prog.info? 164 = some Tryz.t164 := by kernel_rfl
@[simp] theorem zok164 : zeroOk Tryz.prog 164 := zok_mk info164 rfl
@[simp] theorem cellsOf165 : Tryz.prog.cellsOf 165 = 1 := by kernel_rfl
@[simp] theorem info165 : Tryz.prog.info? 165 = some Tryz.t165 := by kernel_rfl
@[simp] theorem zok165 : zeroOk Tryz.prog 165 := zok_mk info165 rfl
@[simp] theorem cellsOf166 : Tryz.prog.cellsOf 166 = 1 := by kernel_rfl
@[simp] theorem info166 : Tryz.prog.info? 166 = some Tryz.t166 := by kernel_rfl
@[simp] theorem zok166 : zeroOk Tryz.prog 166 := zok_mk info166 rfl
@[simp] theorem cellsOf167 : Tryz.prog.cellsOf 167 = 1 := by kernel_rfl
@[simp] theorem info167 : Tryz.prog.info? 167 = some Tryz.t167 := by kernel_rfl
@[simp] theorem zok167 : zeroOk Tryz.prog 167 := zok_mk info167 rfl
@[simp] theorem cellsOf168 : Tryz.prog.cellsOf 168 = 1 := by kernel_rfl
@[simp] theorem info168 : Tryz.prog.info? 168 = some Tryz.t168 := by kernel_rfl
@[simp] theorem zok168 : zeroOk Tryz.prog 168 := zok_mk info168 rfl
@[simp] theorem cellsOf169 : Tryz.prog.cellsOf 169 = 1 := by kernel_rfl
@[simp] theorem info169 : Tryz.prog.info? 169 = some Tryz.t169 := by kernel_rfl
@[simp] theorem zok169 : zeroOk Tryz.prog 169 := zok_mk info169 rfl
@[simp] theorem cellsOf170 : Tryz.prog.cellsOf 170 = 1 := by kernel_rfl
@[simp] theorem info170 : Tryz.prog.info? 170 = some Tryz.t170 := by kernel_rfl
@[simp] theorem zok170 : zeroOk Tryz.prog 170 := zok_mk info170 rfl
@[simp] theorem cellsOf171 : Tryz.prog.cellsOf 171 = 1 := by kernel_rfl
@[simp] theorem info171 : Tryz.prog.info? 171 = some Tryz.t171 := by kernel_rfl
@[simp] theorem zok171 : zeroOk Tryz.prog 171 := zok_mk info171 rfl
@[simp] theorem cellsOf172 : Tryz.prog.cellsOf 172 = 1 := by kernel_rfl
@[simp] theorem info172 : Tryz.prog.info? 172 = some Tryz.t172 := by kernel_rfl
@[simp] theorem zok172 : zeroOk Tryz.prog 172 := zok_mk info172 rfl
@[simp] theorem cellsOf173 : Tryz.prog.cellsOf 173 = 1 := by kernel_rfl
@[simp] theorem info173 : Tryz.prog.info? 173 = some Tryz.t173 := by kernel_rfl
@[simp] theorem zok173 : zeroOk Tryz.prog 173 := zok_mk info173 rfl
@[simp] theorem cellsOf174 : Tryz.prog.cellsOf 174 = 1 := by kernel_rfl
@[simp] theorem info174 : Tryz.prog.info? 174 = some Tryz.t174 := by kernel_rfl
@[simp] theorem zok174 : zeroOk Tryz.prog 174 := zok_mk info174 rfl
@[simp] theorem cellsOf175 : Tryz.prog.cellsOf 175 = 1 := by kernel_rfl
@[simp] theorem info175 : Tryz.prog.info? 175 = some Tryz.t175 := by kernel_rfl
@[simp] theorem cellsOf176 : Tryz.prog.cellsOf 176 = 1 := by kernel_rfl
@[simp] theorem info176 : Tryz.prog.info? 176 = some Tryz.t176 := by kernel_rfl
@[simp] theorem zok176 : zeroOk Tryz.prog 176 := zok_mk info176 rfl
@[simp] theorem cellsOf177 : Tryz.prog.cellsOf 177 = 1 := by kernel_rfl
@[simp] theorem info177 : Tryz.prog.info? 177 = some Tryz.t177 := by kernel_rfl
@[simp] theorem cellsOf178 : Tryz.prog.cellsOf 178 = 1 := by kernel_rfl
@[simp] theorem info178 : Tryz.prog.info? 178 = some Tryz.t178 := by kernel_rfl
@[simp] theorem zok178 : zeroOk Tryz.prog 178 := zok_mk info178 rfl
@[simp] theorem cellsOf179 : Tryz.prog.cellsOf 179 = 1 := by kernel_rfl
@[simp] theorem info179 : Tryz.prog.info? 179 = some Tryz.t179 := by kernel_rfl
@[simp] theorem zok179 : zeroOk Tryz.prog 179 := zok_mk info179 rfl
@[simp] theorem cellsOf180 : Tryz.prog.cellsOf 180 = 1 := by kernel_rfl
@[simp] theorem info180 : Tryz.prog.info? 180 = some Tryz.t180 := by kernel_rfl
@[simp] theorem zok180 : zeroOk Tryz.prog 180 := zok_mk info180 rfl
@[simp] theorem cellsOf181 : Tryz.prog.cellsOf 181 = 1 := by kernel_rfl
@[simp] theorem info181 : Tryz.prog.info? 181 = some Tryz.t181 := by kernel_rfl
@[simp] theorem zok181 : zeroOk Tryz.prog 181 := zok_mk info181 rfl
@[simp] theorem cellsOf182 : Tryz.prog.cellsOf 182 = 1 := by kernel_rfl
@[simp] theorem info182 : Tryz.prog.info? 182 = some Tryz.t182 := by kernel_rfl
@[simp] theorem zok182 : zeroOk Tryz.prog 182 := zok_mk info182 rfl
@[simp] theorem cellsOf183 : Tryz.prog.cellsOf 183 = 1 := by kernel_rfl
@[simp] theorem info183 : Tryz.prog.info? 183 = some Tryz.t183 := by kernel_rfl
@[simp] theorem cellsOf184 : Tryz.prog.cellsOf 184 = 1 := by kernel_rfl
@[simp] theorem info184 : Tryz.prog.info? 184 = some Tryz.t184 := by kernel_rfl
@[simp] theorem zok184 : zeroOk Tryz.prog 184 := zok_mk info184 rfl
@[simp] theorem cellsOf185 : Tryz.prog.cellsOf 185 = 1 := by kernel_rfl
@[simp] theorem info185 : Tryz.prog.info? 185 = some Tryz.t185 := by kernel_rfl
@[simp] theorem zok185 : zeroOk Tryz.prog 185 := zok_mk info185 rfl
@[simp] theorem cellsOf186 : Tryz.prog.cellsOf 186 = 1 := by kernel_rfl
@[simp] theorem info186 : Tryz.prog.info? 186 = some Tryz.t186 := by kernel_rfl
@[simp] theorem zok186 : zeroOk Tryz.prog 186 := zok_mk info186 rfl
@[simp] theorem cellsOf187 : Tryz.prog.cellsOf 187 = 1 := by kernel_rfl
@[simp] theorem info187 : Tryz.prog.info? 187 = some Tryz.t187 := by kernel_rfl
@[simp] theorem cellsOf188 : Tryz.prog.cellsOf 188 = 1 := by kernel_rfl
@[simp] theorem info188 : Tryz.prog.info? 188 = some Tryz.t188 := by kernel_rfl
@[simp] theorem zok188 : zeroOk Tryz.prog 188 := zok_mk info188 rfl
@[simp] theorem cellsOf189 : Tryz.prog.cellsOf 189 = 1 := by kernel_rfl
@[simp] theorem info189 : Tryz.prog.info? 189 = some Tryz.t189 := by kernel_rfl
@[simp] theorem cellsOf190 : Tryz.prog.cellsOf 190 = 1 := by kernel_rfl
@[simp] theorem info190 : Tryz.prog.info? 190 = some Tryz.t190 := by kernel_rfl
@[simp] theorem zok190 : zeroOk Tryz.prog 190 := zok_mk info190 rfl
@[simp] theorem cellsOf191 : Tryz.prog.cellsOf 191 = 1 := by kernel_rfl
@[simp] theorem info191 : Tryz.prog.info? 191 = some Tryz.t191 := by kernel_rfl
@[simp] theorem zok191 : zeroOk Tryz.prog 191 := zok_mk info191 rfl
@[simp] theorem cellsOf192 : Tryz.prog.cellsOf 192 = 1 := by kernel_rfl
@[simp] theorem info192 : Tryz.prog.info? 192 = some Tryz.t192 := by kernel_rfl
@[simp] theorem cellsOf193 : Tryz.prog.cellsOf 193 = 1 := by kernel_rfl
@[simp] theorem info193 : Tryz.prog.info? 193 = some Tryz.t193 := by kernel_rfl
@[simp] theorem zok193 : zeroOk Tryz.prog 193 := zok_mk info193 rfl
@[simp] theorem cellsOf194 : Tryz.prog.cellsOf 194 = 1 := by kernel_rfl
@[simp] theorem info194 : Tryz.prog.info? 194 = some Tryz.t194 := by kernel_rfl
@[simp] theorem cellsOf195 : Tryz.prog.cellsOf 195 = 1 := by kernel_rfl
@[simp] theorem info195 : Tryz.prog.info? 195 = some Tryz.t195 := by kernel_rfl
@[simp] theorem zok195 : zeroOk Tryz.prog 195 := zok_mk info195 rfl
@[simp] theorem cellsOf196 : Tryz.prog.cellsOf 196 = 1 := by kernel_rfl
@[simp] theorem info196 : Tryz.prog.info? 196 = some Tryz.t196 := by kernel_rfl
@[simp] theorem cellsOf197 : Tryz.prog.cellsOf 197 = 1 := by kernel_rfl
@[simp] theorem info197 : Tryz.prog.info? 197 = some Tryz.t197 := by kernel_rfl
@[simp] theorem zok197 : zeroOk Tryz.prog 197 := zok_mk info197 rfl
@[simp] theorem cellsOf198 : Tryz.prog.cellsOf 198 = 2 := by kernel_rfl
@[simp] theorem info198 : Tryz.prog.info? 198 = some Tryz.t198 := by kernel_rfl
@[simp] theorem zok198 : zeroOk Tryz.prog 198 := zok_mk info198 rfl
@[simp] theorem cellsOf199 : Tryz.prog.cellsOf 199 = 1 := by kernel_rfl
@[simp] theorem info199 : Tryz.prog.info? 199 = some Tryz.t199 := by kernel_rfl
@[simp] theorem cellsOf200 : Tryz.prog.cellsOf 200 = 1 := by kernel_rfl
@[simp] theorem info200 : Tryz.prog.info? 200 = some Tryz.t200 := by kernel_rfl
@[simp] theorem zok200 : zeroOk Tryz.prog 200 := zok_mk info200 rfl
@[simp] theorem cellsOf201 : Tryz.prog.cellsOf 201 = 1 := by kernel_rfl
@[simp] theorem info201 : Tryz.prog.info? 201 = some Tryz.t201 := by kernel_rfl
@[simp] theorem zok201 : zeroOk Tryz.prog 201 := zok_mk info201 rfl
@[simp] theorem cellsOf202 : Tryz.prog.cellsOf 202 = 4 := by kernel_rfl
@[simp] theorem info202 : Tryz.prog.info? 202 = some Tryz.t202 := by kernel_rfl
@[simp] theorem zok202 : zeroOk Tryz.prog 202 := zok_mk info202 rfl
@[simp] theorem cellsOf203 : Tryz.prog.cellsOf 203 = 4 := by kernel_rfl
@[simp] theorem info203 : Tryz.prog.info? 203 = some Tryz.t203 := by kernel_rfl
@[simp] theorem zok203 : zeroOk Tryz.prog 203 := zok_mk info203 rfl
@[simp] theorem cellsOf204 : Tryz.prog.cellsOf 204 = 1 := by kernel_rfl
@[simp] theorem info204 : Tryz.prog.info? 204 = some Tryz.t204 := by kernel_rfl
@[simp] theorem cellsOf205 : Tryz.prog.cellsOf 205 = 1 := by kernel_rfl
@[simp] theorem info205 : Tryz.prog.info? 205 = some Tryz.t205 := by kernel_rfl
@[simp] theorem zok205 : zeroOk Tryz.prog 205 := zok_mk info205 rfl
@[simp] theorem cellsOf206 : Tryz.prog.cellsOf 206 = 1 := by kernel_rfl
@[simp] theorem info206 : Tryz.prog.info? 206 = some Tryz.t206 := by kernel_rfl
@[simp] theorem zok206 : zeroOk Tryz.prog 206 := zok_mk info206 rfl
@[simp] theorem cellsOf207 : Tryz.prog.cellsOf 207 = 1 := by kernel_rfl
@[simp] theorem info207 : Tryz.prog.info? 207 = some Tryz.t207 := by kernel_rfl
@[simp] theorem zok207 : zeroOk Tryz.prog 207 := zok_mk info207 rfl
@[simp] theorem cellsOf208 : Tryz.prog.cellsOf 208 = 5 := by kernel_rfl
@[simp] theorem info208 : Tryz.prog.info? 208 = some Tryz.t208 := by kernel_rfl
@[simp] theorem zok208 : zeroOk Tryz.prog 208 := zok_mk info208 rfl
@[simp] theorem cellsOf209 : Tryz.prog.cellsOf 209 = 5 := by kernel_rfl
@[simp] theorem info209 : Tryz.prog.info? 209 = some Tryz.t209 := by kernel_rfl
@[simp] theorem zok209 : zeroOk Tryz.prog 209 := zok_mk info209 rfl
@[simp] theorem cellsOf210 : Tryz.prog.cellsOf 210 = 1 := by kernel_rfl
@[simp] theorem info210 : Tryz.prog.info? 210 = some Tryz.t210 := by kernel_rfl
@[simp] theorem zok210 : zeroOk Tryz.prog 210 := zok_mk info210 rfl
@[simp] theorem cellsOf211 : Tryz.prog.cellsOf 211 = 7 := by kernel_rfl
@[simp] theorem info211 : Tryz.prog.info? 211 = some Tryz.t211 := by kernel_rfl
@[simp] theorem zok211 : zeroOk Tryz.prog 211 := zok_mk info211 rfl
@[simp] theorem cellsOf212 : Tryz.prog.cellsOf 212 = 7 := by kernel_rfl
@[simp] theorem info212 : Tryz.prog.info? 212 = some Tryz.t212 := by kernel_rfl
@[simp] theorem zok212 : zeroOk Tryz.prog 212 := zok_mk info212 rfl
@[simp] theorem cellsOf213 : Tryz.prog.cellsOf 213 = 1 := by kernel_rfl
@[simp] theorem info213 : Tryz.prog.info? 213 = some Tryz.t213 := by kernel_rfl
@[simp] theorem zok213 : zeroOk Tryz.prog 213 := zok_mk info213 rfl
@[simp] theorem cellsOf214 : Tryz.prog.cellsOf 214 = 1 := by kernel_rfl
@[simp] theorem info214 : Tryz.prog.info? 214 = some Tryz.t214 := by kernel_rfl
@[simp] theorem zok214 : zeroOk Tryz.prog 214 := zok_mk info214 rfl
@[simp] theorem cellsOf215 : Tryz.prog.cellsOf 215 = 1 := by kernel_rfl
@[simp] theorem info215 : Tryz.prog.info? 215 = some Tryz.t215 := by kernel_rfl
@[simp] theorem zok215 : zeroOk Tryz.prog 215 := zok_mk info215 rfl
@[simp] theorem cellsOf216 : Tryz.prog.cellsOf 216 = 1 := by kernel_rfl
@[simp] theorem info216 : Tryz.prog.info? 216 = some Tryz.t216 := by kernel_rfl
@[simp] theorem zok216 : zeroOk Tryz.prog 216 := zok_mk info216 rfl
@[simp] theorem cellsOf217 : Tryz.prog.cellsOf 217 = 1 := by kernel_rfl
@[simp] theorem info217 : Tryz.prog.info? 217 = some Tryz.t217 := by kernel_rfl
@[simp] theorem zok217 : zeroOk Tryz.prog 217 := zok_mk info217 rfl
@[simp] theorem cellsOf218 : Tryz.prog.cellsOf 218 = 1 := by kernel_rfl
@[simp] theorem info218 : Tryz.prog.info? 218 = some Tryz.t218 := by kernel_rfl
@[simp] theorem zok218 : zeroOk Tryz.prog 218 := zok_mk info218 rfl
@[simp] theorem cellsOf219 : Tryz.prog.cellsOf 219 = 1 := by kernel_rfl
@[simp] theorem info219 : Tryz.prog.info? 219 = some Tryz.t219 := by kernel_rfl
@[simp] theorem zok219 : zeroOk Tryz.prog 219 := zok_mk info219 rfl
@[simp] theorem cellsOf220 : Tryz.prog.cellsOf 220 = 8 := by kernel_rfl
@[simp] theorem info220 : Tryz.prog.info? 220 = some Tryz.t220 := by kernel_rfl
@[simp] theorem zok220 : zeroOk Tryz.prog 220 := zok_mk info220 rfl
@[simp] theorem cellsOf221 : Tryz.prog.cellsOf 221 = 8 := by kernel_rfl
@[simp] theorem info221 : Tryz.prog.info? 221 = some Tryz.t221 := by kernel_rfl
@[simp] theorem zok221 : zeroOk Tryz.prog 221 := zok_mk info221 rfl
@[simp] theorem cellsOf222 : Tryz.prog.cellsOf 222 = 8 := by kernel_rfl
@[simp] theorem info222 : Tryz.prog.info? 222 = some Tryz.t222 := by kernel_rfl
@[simp] theorem zok222 : zeroOk Tryz.prog 222 := zok_mk info222 rfl
@[simp] theorem cellsOf223 : Tryz.prog.cellsOf 223 = 11 := by kernel_rfl
@[simp] theorem info223 : Tryz.prog.info? 223 = some Tryz.t223 := by kernel_rfl
@[simp] theorem zok223 : zeroOk Tryz.prog 223 := zok_mk info223 rfl
@[simp] theorem cellsOf224 : Tryz.prog.cellsOf 224 = 11 := by kernel_rfl
@[simp] theorem info224 : Tryz.prog.info? 224 = some Tryz.t224 := by kernel_rfl
@[simp] theorem zok224 : zeroOk Tryz.prog 224 := zok_mk info224 rfl
@[simp] theorem cellsOf225 : Tryz.prog.cellsOf 225 = 1 := by kernel_rfl
@[simp] theorem info225 : Tryz.prog.info? 225 = some Tryz.t225 := by kernel_rfl
@[simp] theorem zok225 : zeroOk Tryz.prog 225 := zok_mk info225 rfl
@[simp] theorem cellsOf226 : Tryz.prog.cellsOf 226 = 1 := by kernel_rfl
@[simp] theorem info226 : Tryz.prog.info? 226 = some Tryz.t226 := by kernel_rfl
@[simp] theorem zok226 : zeroOk Tryz.prog 226 := zok_mk info226 rfl
@[simp] theorem cellsOf227 : Tryz.prog.cellsOf 227 = 1 := by kernel_rfl
@[simp] theorem info227 : Tryz.prog.info? 227 = some Tryz.t227 := by kernel_rfl
@[simp] theorem zok227 : zeroOk Tryz.prog 227 := zok_mk info227 rfl
@[simp] theorem cellsOf228 : Tryz.prog.cellsOf 228 = 1 := by kernel_rfl
@[simp] theorem info228 : Tryz.prog.info? 228 = some Tryz.t228 := by kernel_rfl
@[simp] theorem zok228 : zeroOk Tryz.prog 228 := zok_mk info228 rfl
@[simp] theorem cellsOf229 : Tryz.prog.cellsOf 229 = 1 := by kernel_rfl
@[simp] theorem info229 : Tryz.prog.info? 229 = some Tryz.t229 := by kernel_rfl
@[simp] theorem cellsOf230 : Tryz.prog.cellsOf 230 = 1 := by kernel_rfl
@[simp] theorem info230 : Tryz.prog.info? 230 = some Tryz.t230 := by kernel_rfl
@[simp] theorem zok230 : zeroOk Tryz.prog 230 := zok_mk info230 rfl
@[simp] theorem cellsOf231 : Tryz.prog.cellsOf 231 = 1 := by kernel_rfl
@[simp] theorem info231 : Tryz.prog.info? 231 = some Tryz.t231 := by kernel_rfl
@[simp] theorem zok231 : zeroOk Tryz.prog 231 := zok_mk info231 rfl
@[simp] theorem cellsOf232 : Tryz.prog.cellsOf 232 = 1 := by kernel_rfl
@[simp] theorem info232 : Tryz.prog.info? 232 = some Tryz.t232 := by kernel_rfl
@[simp] theorem zok232 : zeroOk Tryz.prog 232 := zok_mk info232 rfl
@[simp] theorem cellsOf233 : Tryz.prog.cellsOf 233 = 1 := by kernel_rfl
@[simp] theorem info233 : Tryz.prog.info? 233 = some Tryz.t233 := by kernel_rfl
@[simp] theorem cellsOf234 : Tryz.prog.cellsOf 234 = 1 := by kernel_rfl
@[simp] theorem info234 : Tryz.prog.info? 234 = some Tryz.t234 := by kernel_rfl
@[simp] theorem zok234 : zeroOk Tryz.prog 234 := zok_mk info234 rfl
@[simp] theorem cellsOf235 : Tryz.prog.cellsOf 235 = 1 := by kernel_rfl
@[simp] theorem info235 : Tryz.prog.info? 235 = some Tryz.t235 := by kernel_rfl
@[simp] theorem cellsOf236 : Tryz.prog.cellsOf 236 = 1 := by kernel_rfl
@[simp] theorem info236 : Tryz.prog.info? 236 = some Tryz.t236 := by kernel_rfl
@[simp] theorem zok236 : zeroOk Tryz.prog 236 := zok_mk info236 rfl
@[simp] theorem cellsOf237 : Tryz.prog.cellsOf 237 = 1 := by kernel_rfl
@[simp] theorem info237 : Tryz.prog.info? 237 = some Tryz.t237 := by kernel_rfl
@[simp] theorem zok237 : zeroOk Tryz.prog 237 := zok_mk info237 rfl
@[simp] theorem cellsOf238 : Tryz.prog.cellsOf 238 = 1 := by kernel_rfl
@[simp] theorem info238 : Tryz.prog.info? 238 = some Tryz.t238 := by kernel_rfl
@[simp] theorem zok238 : zeroOk Tryz.prog 238 := zok_mk info238 rfl
@[simp] theorem cellsOf239 : Tryz.prog.cellsOf 239 = 1 := by kernel_rfl
@[simp] theorem info239 : Tryz.prog.info? 239 = some Tryz.t239 := by kernel_rfl
@[simp] theorem zok239 : zeroOk Tryz.prog 239 := zok_mk info239 rfl
@[simp] theorem cellsOf240 : Tryz.prog.cellsOf 240 = 1 := by kernel_rfl
@[simp] theorem info240 : Tryz.prog.info? 240 = some Tryz.t240 := by kernel_rfl
@[simp] theorem zok240 : zeroOk Tryz.prog 240 := zok_mk info240 rfl
@[simp] theorem cellsOf241 : Tryz.prog.cellsOf 241 = 1 := by kernel_rfl
@[simp] theorem info241 : Tryz.prog.info? 241 = some Tryz.t241 := by kernel_rfl
@[simp] theorem zok241 : zeroOk Tryz.prog 241 := zok_mk info241 rfl
@[simp] theorem cellsOf242 : Tryz.prog.cellsOf 242 = 1 := by kernel_rfl
@[simp] theorem info242 : Tryz.prog.info? 242 = some Tryz.t242 := by kernel_rfl
@[simp] theorem zok242 : zeroOk Tryz.prog 242 := zok_mk info242 rfl
@[simp] theorem cellsOf243 : Tryz.prog.cellsOf 243 = 1 := by kernel_rfl
@[simp] theorem info243 : Tryz.prog.info? 243 = some Tryz.t243 := by kernel_rfl
@[simp] theorem zok243 : zeroOk Tryz.prog 243 := zok_mk info243 rfl
@[simp] theorem cellsOf244 : Tryz.prog.cellsOf 244 = 1 := by kernel_rfl
@[simp] theorem info244 : Tryz.prog.info? 244 = some Tryz.t244 := by kernel_rfl
@[simp] theorem zok244 : zeroOk Tryz.prog 244 := zok_mk info244 rfl
@[simp] theorem cellsOf245 : Tryz.prog.cellsOf 245 = 64 := by kernel_rfl
@[simp] theorem info245 : Tryz.prog.info? 245 = some Tryz.t245 := by kernel_rfl
@[simp] theorem zok245 : zeroOk Tryz.prog 245 := zok_mk info245 rfl
@[simp] theorem cellsOf246 : Tryz.prog.cellsOf 246 = 1 := by kernel_rfl
@[simp] theorem info246 : Tryz.prog.info? 246 = some Tryz.t246 := by kernel_rfl
@[simp] theorem zok246 : zeroOk Tryz.prog 246 := zok_mk info246 rfl
@[simp] theorem cellsOf247 : Tryz.prog.cellsOf 247 = 1 := by kernel_rfl
@[simp] theorem info247 : Tryz.prog.info? 247 = some Tryz.t247 := by kernel_rfl
@[simp] theorem zok247 : zeroOk Tryz.prog 247 := zok_mk info247 rfl
@[simp] theorem cellsOf248 : Tryz.prog.cellsOf 248 = 1 := by kernel_rfl
@[simp] theorem info248 : Tryz.prog.info? 248 = some Tryz.t248 := by kernel_rfl
@[simp] theorem zok248 : zeroOk Tryz.prog 248 := zok_mk info248 rfl
@[simp] theorem cellsOf249 : Tryz.prog.cellsOf 249 = 1 := by kernel_rfl
@[simp] theorem info249 : Tryz.prog.info? 249 = some Tryz.t249 := by kernel_rfl
@[simp] theorem zok249 : zeroOk Tryz.prog 249 := zok_mk info249 rfl
@[simp] theorem cellsOf250 : Tryz.prog.cellsOf 250 = 1 := by kernel_rfl
@[simp] theorem info250 : Tryz.prog.info? 250 = some Tryz.t250 := by kernel_rfl
@[simp] theorem zok250 : zeroOk Tryz.prog 250 := zok_mk info250 rfl
@[simp] theorem cellsOf251 : Tryz.prog.cellsOf 251 = 1 := by kernel_rfl
@[simp] theorem info251 : Tryz.prog.info? 251 = some Tryz.t251 := by kernel_rfl
@[simp] theorem cellsOf252 : Tryz.prog.cellsOf 252 = 1 := by kernel_rfl
@[simp] theorem info252 : Tryz.prog.info? 252 = some Tryz.t252 := by kernel_rfl
@[simp] theorem zok252 : zeroOk Tryz.prog 252 := zok_mk info252 rfl
@[simp] theorem cellsOf253 : Tryz.prog.cellsOf 253 = 1 := by kernel_rfl
@[simp] theorem info253 : Tryz.prog.info? 253 = some Tryz.t253 := by kernel_rfl
@[simp] theorem zok253 : zeroOk Tryz.prog 253 := zok_mk info253 rfl
@[simp] theorem cellsOf254 : Tryz.prog.cellsOf 254 = 1 := by kernel_rfl
@[simp] theorem info254 : Tryz.prog.info? 254 = some Tryz.t254 := by kernel_rfl
@[simp] theorem zok254 : zeroOk Tryz.prog 254 := zok_mk info254 rfl
@[simp] theorem cellsOf255 : Tryz.prog.cellsOf 255 = 1 := by kernel_rfl
@[simp] theorem info255 : Tryz.prog.info? 255 = some Tryz.t255 := by kernel_rfl
@[simp] theorem zok255 : zeroOk Tryz.prog 255 := zok_mk info255 rfl
@[simp] theorem cellsOf256 : Tryz.prog.cellsOf 256 = 1 := by kernel_rfl
@[simp] theorem info256 : Tryz.prog.info? 256 = some Tryz.t256 := by kernel_rfl
@[simp] theorem zok256 : zeroOk Tryz.prog 256 := zok_mk info256 rfl
@[simp] theorem cellsOf257 : Tryz.prog.cellsOf 257 = 1 := by kernel_rfl
@[simp] theorem info257 : Tryz.prog.info? 257 = some Tryz.t257 := by kernel_rfl
@[simp] theorem zok257 : zeroOk Tryz.prog 257 := zok_mk info257 rfl
@[simp] theorem cellsOf258 : Tryz.prog.cellsOf 258 = 1 := by kernel_rfl
@[simp] theorem info258 : Tryz.prog.info? 258 = some Tryz.t258 := by kernel_rfl
@[simp] theorem zok258 : zeroOk Tryz.prog 258 := zok_mk info258 rfl
@[simp] theorem cellsOf259 : Tryz.prog.cellsOf 259 = 4 := by kernel_rfl
@[simp] theorem info259 : Tryz.prog.info? 259 = some Tryz.t259 := by kernel_rfl
@[simp] theorem zok259 : zeroOk Tryz.prog 259 := zok_mk info259 rfl
@[simp] theorem cellsOf260 : Tryz.prog.cellsOf 260 = 4 := by kernel_rfl
@[simp] theorem info260 : Tryz.prog.info? 260 = some Tryz.t260 := by kernel_rfl
@[simp] theorem zok260 : zeroOk Tryz.prog 260 := zok_mk info260 rfl
@[simp] theorem cellsOf261 : Tryz.prog.cellsOf 261 = 0 := by kernel_rfl
@[simp] theorem info261 : Tryz.prog.info? 261 = some Tryz.t261 := by kernel_rfl
@[simp] theorem zok261 : zeroOk Tryz.prog 261 := zok_mk info261 rfl
@[simp] theorem cellsOf262 : Tryz.prog.cellsOf 262 = 0 := by kernel_rfl
@[simp] theorem info262 : Tryz.prog.info? 262 = some Tryz.t262 := by kernel_rfl
@[simp] theorem zok262 : zeroOk Tryz.prog 262 := zok_mk info262 rfl
@[simp] theorem cellsOf263 : Tryz.prog.cellsOf 263 = 0 := by kernel_rfl
@[simp] theorem info263 : Tryz.prog.info? 263 = some Tryz.t263 := by kernel_rfl
@[simp] theorem zok263 : zeroOk Tryz.prog 263 := zok_mk info263 rfl
@[simp] theorem cellsOf264 : Tryz.prog.cellsOf 264 = 1 := by kernel_rfl
@[simp] theorem info264 : Tryz.prog.info? 264 = some Tryz.t264 := by kernel_rfl
@[simp] theorem zok264 : zeroOk Tryz.prog 264 := zok_mk info264 rfl
@[simp] theorem cellsOf265 : Tryz.prog.cellsOf 265 = 1 := by kernel_rfl
@[simp] theorem info265 : Tryz.prog.info? 265 = some Tryz.t265 := by kernel_rfl
@[simp] theorem zok265 : zeroOk Tryz.prog 265 := zok_mk info265 rfl
@[simp] theorem cellsOf266 : Tryz.prog.cellsOf 266 = 1 := by kernel_rfl
@[simp] theorem info266 : Tryz.prog.info? 266 = some Tryz.t266 := by kernel_rfl
@[simp] theorem zok266 : zeroOk Tryz.prog 266 := zok_mk info266 rfl
@[simp] theorem cellsOf267 : Tryz.prog.cellsOf 267 = 1 := by kernel_rfl
@[simp] theorem info267 : Tryz.prog.info? 267 = some Tryz.t267 := by kernel_rfl
@[simp] theorem zok267 : zeroOk Tryz.prog 267 := zok_mk info267 rfl
@[simp] theorem cellsOf268 : Tryz.prog.cellsOf 268 = 1 := by kernel_rfl
@[simp] theorem info268 : Tryz.prog.info? 268 = some Tryz.t268 := by kernel_rfl
@[simp] theorem zok268 : zeroOk Tryz.prog 268 := zok_mk info268 rfl
@[simp] theorem cellsOf269 : Tryz.prog.cellsOf 269 = 1 := by kernel_rfl
@[simp] theorem info269 : Tryz.prog.info? 269 = some Tryz.t269 := by kernel_rfl
@[simp] theorem zok269 : zeroOk Tryz.prog 269 := zok_mk info269 rfl
@[simp] theorem cellsOf270 : Tryz.prog.cellsOf 270 = 11 := by kernel_rfl
@[simp] theorem info270 : Tryz.prog.info? 270 = some Tryz.t270 := by kernel_rfl
@[simp] theorem zok270 : zeroOk Tryz.prog 270 := zok_mk info270 rfl
@[simp] theorem cellsOf271 : Tryz.prog.cellsOf 271 = 11 := by kernel_rfl
@[simp] theorem info271 : Tryz.prog.info? 271 = some Tryz.t271 := by kernel_rfl
@[simp] theorem zok271 : zeroOk Tryz.prog 271 := zok_mk info271 rfl
@[simp] theorem cellsOf272 : Tryz.prog.cellsOf 272 = 1 := by kernel_rfl
@[simp] theorem info272 : Tryz.prog.info? 272 = some Tryz.t272 := by kernel_rfl
@[simp] theorem zok272 : zeroOk Tryz.prog 272 := zok_mk info272 rfl
@[simp] theorem cellsOf273 : Tryz.prog.cellsOf 273 = 1 := by kernel_rfl
@[simp] theorem info273 : Tryz.prog.info? 273 = some Tryz.t273 := by kernel_rfl
@[simp] theorem zok273 : zeroOk Tryz.prog 273 := zok_mk info273 rfl
end Go.Proofs.YthoaneleeabadaaGreat
