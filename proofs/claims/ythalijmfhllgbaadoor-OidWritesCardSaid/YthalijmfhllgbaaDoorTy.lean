/-
  Facts on the types of the translation: cells, info. No condition.
-/
import Derived.Test.YthalijmfhllgbaaDoorProg
import Derived.Test.YthalijmfhllgbaaDoorSxS
namespace Go.Proofs.YthalijmfhllgbaaDoor
open Go.Sx
set_option maxRecDepth 100000
@[simp] theorem cellsOf0 : Tryd.prog.cellsOf 0 = 1 := by kernel_rfl
@[simp] theorem info0 : Tryd.prog.info? 0 = some Tryd.t0 := by kernel_rfl
@[simp] theorem cellsOf1 : Tryd.prog.cellsOf 1 = 1 := by kernel_rfl
@[simp] theorem info1 : Tryd.prog.info? 1 = some Tryd.t1 := by kernel_rfl
@[simp] theorem zok1 : zeroOk Tryd.prog 1 := zok_mk info1 rfl
@[simp] theorem cellsOf2 : Tryd.prog.cellsOf 2 = 1 := by kernel_rfl
@[simp] theorem info2 : Tryd.prog.info? 2 = some Tryd.t2 := by kernel_rfl
@[simp] theorem zok2 : zeroOk Tryd.prog 2 := zok_mk info2 rfl
@[simp] theorem cellsOf3 : Tryd.prog.cellsOf 3 = 1 := by kernel_rfl
@[simp] theorem info3 : Tryd.prog.info? 3 = some Tryd.t3 := by kernel_rfl
@[simp] theorem zok3 : zeroOk Tryd.prog 3 := zok_mk info3 rfl
@[simp] theorem cellsOf4 : Tryd.prog.cellsOf 4 = 1 := by kernel_rfl
@[simp] theorem info4 : Tryd.prog.info? 4 = some Tryd.t4 := by kernel_rfl
@[simp] theorem zok4 : zeroOk Tryd.prog 4 := zok_mk info4 rfl
@[simp] theorem cellsOf5 : Tryd.prog.cellsOf 5 = 1 := by kernel_rfl
@[simp] theorem info5 : Tryd.prog.info? 5 = some Tryd.t5 := by kernel_rfl
@[simp] theorem zok5 : zeroOk Tryd.prog 5 := zok_mk info5 rfl
@[simp] theorem cellsOf6 : Tryd.prog.cellsOf 6 = 1 := by kernel_rfl
@[simp] theorem info6 : Tryd.prog.info? 6 = some Tryd.t6 := by kernel_rfl
@[simp] theorem zok6 : zeroOk Tryd.prog 6 := zok_mk info6 rfl
@[simp] theorem cellsOf7 : Tryd.prog.cellsOf 7 = 4 := by kernel_rfl
@[simp] theorem info7 : Tryd.prog.info? 7 = some Tryd.t7 := by kernel_rfl
@[simp] theorem zok7 : zeroOk Tryd.prog 7 := zok_mk info7 rfl
@[simp] theorem cellsOf8 : Tryd.prog.cellsOf 8 = 4 := by kernel_rfl
@[simp] theorem info8 : Tryd.prog.info? 8 = some Tryd.t8 := by kernel_rfl
@[simp] theorem zok8 : zeroOk Tryd.prog 8 := zok_mk info8 rfl
@[simp] theorem cellsOf9 : Tryd.prog.cellsOf 9 = 1 := by kernel_rfl
@[simp] theorem info9 : Tryd.prog.info? 9 = some Tryd.t9 := by kernel_rfl
@[simp] theorem zok9 : zeroOk Tryd.prog 9 := zok_mk info9 rfl
@[simp] theorem cellsOf10 : Tryd.prog.cellsOf 10 = 1 := by kernel_rfl
@[simp] theorem info10 : Tryd.prog.info? 10 = some Tryd.t10 := by kernel_rfl
@[simp] theorem zok10 : zeroOk Tryd.prog 10 := zok_mk info10 rfl
@[simp] theorem cellsOf11 : Tryd.prog.cellsOf 11 = 1 := by kernel_rfl
@[simp] theorem info11 : Tryd.prog.info? 11 = some Tryd.t11 := by kernel_rfl
@[simp] theorem zok11 : zeroOk Tryd.prog 11 := zok_mk info11 rfl
@[simp] theorem cellsOf12 : Tryd.prog.cellsOf 12 = 1 := by kernel_rfl
@[simp] theorem info12 : Tryd.prog.info? 12 = some Tryd.t12 := by kernel_rfl
@[simp] theorem zok12 : zeroOk Tryd.prog 12 := zok_mk info12 rfl
@[simp] theorem cellsOf13 : Tryd.prog.cellsOf 13 = 2 := by kernel_rfl
@[simp] theorem info13 : Tryd.prog.info? 13 = some Tryd.t13 := by kernel_rfl
@[simp] theorem zok13 : zeroOk Tryd.prog 13 := zok_mk info13 rfl
@[simp] theorem cellsOf14 : Tryd.prog.cellsOf 14 = 2 := by kernel_rfl
@[simp] theorem info14 : Tryd.prog.info? 14 = some Tryd.t14 := by kernel_rfl
@[simp] theorem zok14 : zeroOk Tryd.prog 14 := zok_mk info14 rfl
@[simp] theorem cellsOf15 : Tryd.prog.cellsOf 15 = 1 := by kernel_rfl
@[simp] theorem info15 : Tryd.prog.info? 15 = some Tryd.t15 := by kernel_rfl
@[simp] theorem zok15 : zeroOk Tryd.prog 15 := zok_mk info15 rfl
@[simp] theorem cellsOf16 : Tryd.prog.cellsOf 16 = 1 := by kernel_rfl
@[simp] theorem info16 : Tryd.prog.info? 16 = some Tryd.t16 := by kernel_rfl
@[simp] theorem zok16 : zeroOk Tryd.prog 16 := zok_mk info16 rfl
@[simp] theorem cellsOf17 : Tryd.prog.cellsOf 17 = 1 := by kernel_rfl
@[simp] theorem info17 : Tryd.prog.info? 17 = some Tryd.t17 := by kernel_rfl
@[simp] theorem zok17 : zeroOk Tryd.prog 17 := zok_mk info17 rfl
@[simp] theorem cellsOf18 : Tryd.prog.cellsOf 18 = 1 := by kernel_rfl
@[simp] theorem info18 : Tryd.prog.info? 18 = some Tryd.t18 := by kernel_rfl
@[simp] theorem zok18 : zeroOk Tryd.prog 18 := zok_mk info18 rfl
@[simp] theorem cellsOf19 : Tryd.prog.cellsOf 19 = 1 := by kernel_rfl
@[simp] theorem info19 : Tryd.prog.info? 19 = some Tryd.t19 := by kernel_rfl
@[simp] theorem zok19 : zeroOk Tryd.prog 19 := zok_mk info19 rfl
@[simp] theorem cellsOf20 : Tryd.prog.cellsOf 20 = 1 := by kernel_rfl
@[simp] theorem info20 : Tryd.prog.info? 20 = some Tryd.t20 := by kernel_rfl
@[simp] theorem zok20 : zeroOk Tryd.prog 20 := zok_mk info20 rfl
@[simp] theorem cellsOf21 : Tryd.prog.cellsOf 21 = 1 := by kernel_rfl
@[simp] theorem info21 : Tryd.prog.info? 21 = some Tryd.t21 := by kernel_rfl
@[simp] theorem zok21 : zeroOk Tryd.prog 21 := zok_mk info21 rfl
@[simp] theorem cellsOf22 : Tryd.prog.cellsOf 22 = 1 := by kernel_rfl
@[simp] theorem info22 : Tryd.prog.info? 22 = some Tryd.t22 := by kernel_rfl
@[simp] theorem zok22 : zeroOk Tryd.prog 22 := zok_mk info22 rfl
@[simp] theorem cellsOf23 : Tryd.prog.cellsOf 23 = 1 := by kernel_rfl
@[simp] theorem info23 : Tryd.prog.info? 23 = some Tryd.t23 := by kernel_rfl
@[simp] theorem zok23 : zeroOk Tryd.prog 23 := zok_mk info23 rfl
@[simp] theorem cellsOf24 : Tryd.prog.cellsOf 24 = 1 := by kernel_rfl
@[simp] theorem info24 : Tryd.prog.info? 24 = some Tryd.t24 := by kernel_rfl
@[simp] theorem zok24 : zeroOk Tryd.prog 24 := zok_mk info24 rfl
@[simp] theorem cellsOf25 : Tryd.prog.cellsOf 25 = 1 := by kernel_rfl
@[simp] theorem info25 : Tryd.prog.info? 25 = some Tryd.t25 := by kernel_rfl
@[simp] theorem zok25 : zeroOk Tryd.prog 25 := zok_mk info25 rfl
@[simp] theorem cellsOf26 : Tryd.prog.cellsOf 26 = 1 := by kernel_rfl
@[simp] theorem info26 : Tryd.prog.info? 26 = some Tryd.t26 := by kernel_rfl
@[simp] theorem zok26 : zeroOk Tryd.prog 26 := zok_mk info26 rfl
@[simp] theorem cellsOf27 : Tryd.prog.cellsOf 27 = 1 := by kernel_rfl
@[simp] theorem info27 : Tryd.prog.info? 27 = some Tryd.t27 := by kernel_rfl
@[simp] theorem zok27 : zeroOk Tryd.prog 27 := zok_mk info27 rfl
@[simp] theorem cellsOf28 : Tryd.prog.cellsOf 28 = 1 := by kernel_rfl
@[simp] theorem info28 : Tryd.prog.info? 28 = some Tryd.t28 := by kernel_rfl
@[simp] theorem zok28 : zeroOk Tryd.prog 28 := zok_mk info28 rfl
@[simp] theorem cellsOf29 : Tryd.prog.cellsOf 29 = 1 := by kernel_rfl
@[simp] theorem info29 : Tryd.prog.info? 29 = some Tryd.t29 := by kernel_rfl
@[simp] theorem zok29 : zeroOk Tryd.prog 29 := zok_mk info29 rfl
@[simp] theorem cellsOf30 : Tryd.prog.cellsOf 30 = 1 := by kernel_rfl
@[simp] theorem info30 : Tryd.prog.info? 30 = some Tryd.t30 := by kernel_rfl
@[simp] theorem cellsOf31 : Tryd.prog.cellsOf 31 = 1 := by kernel_rfl
@[simp] theorem info31 : Tryd.prog.info? 31 = some Tryd.t31 := by kernel_rfl
@[simp] theorem zok31 : zeroOk Tryd.prog 31 := zok_mk info31 rfl
@[simp] theorem cellsOf32 : Tryd.prog.cellsOf 32 = 1 := by kernel_rfl
@[simp] theorem info32 : Tryd.prog.info? 32 = some Tryd.t32 := by kernel_rfl
@[simp] theorem cellsOf33 : Tryd.prog.cellsOf 33 = 1 := by kernel_rfl
@[simp] theorem info33 : Tryd.prog.info? 33 = some Tryd.t33 := by kernel_rfl
@[simp] theorem zok33 : zeroOk Tryd.prog 33 := zok_mk info33 rfl
@[simp] theorem cellsOf34 : Tryd.prog.cellsOf 34 = 1 := by kernel_rfl
@[simp] theorem info34 : Tryd.prog.info? 34 = some Tryd.t34 := by kernel_rfl
@[simp] theorem zok34 : zeroOk Tryd.prog 34 := zok_mk info34 rfl
@[simp] theorem cellsOf35 : Tryd.prog.cellsOf 35 = 1 := by kernel_rfl
@[simp] theorem info35 : Tryd.prog.info? 35 = some Tryd.t35 := by kernel_rfl
@[simp] theorem zok35 : zeroOk Tryd.prog 35 := zok_mk info35 rfl
@[simp] theorem cellsOf36 : Tryd.prog.cellsOf 36 = 1 := by kernel_rfl
@[simp] theorem info36 : Tryd.prog.info? 36 = some Tryd.t36 := by kernel_rfl
@[simp] theorem zok36 : zeroOk Tryd.prog 36 := zok_mk info36 rfl
@[simp] theorem cellsOf37 : Tryd.prog.cellsOf 37 = 1 := by kernel_rfl
@[simp] theorem info37 : Tryd.prog.info? 37 = some Tryd.t37 := by kernel_rfl
@[simp] theorem zok37 : zeroOk Tryd.prog 37 := zok_mk info37 rfl
@[simp] theorem cellsOf38 : Tryd.prog.cellsOf 38 = 1 := by kernel_rfl
@[simp] theorem info38 : Tryd.prog.info? 38 = some Tryd.t38 := by kernel_rfl
@[simp] theorem zok38 : zeroOk Tryd.prog 38 := zok_mk info38 rfl
@[simp] theorem cellsOf39 : Tryd.prog.cellsOf 39 = 1 := by kernel_rfl
@[simp] theorem info39 : Tryd.prog.info? 39 = some Tryd.t39 := by kernel_rfl
@[simp] theorem cellsOf40 : Tryd.prog.cellsOf 40 = 1 := by kernel_rfl
@[simp] theorem info40 : Tryd.prog.info? 40 = some Tryd.t40 := by kernel_rfl
@[simp] theorem zok40 : zeroOk Tryd.prog 40 := zok_mk info40 rfl
@[simp] theorem cellsOf41 : Tryd.prog.cellsOf 41 = 1 := by kernel_rfl
@[simp] theorem info41 : Tryd.prog.info? 41 = some Tryd.t41 := by kernel_rfl
@[simp] theorem cellsOf42 : Tryd.prog.cellsOf 42 = 1 := by kernel_rfl
@[simp] theorem info42 : Tryd.prog.info? 42 = some Tryd.t42 := by kernel_rfl
@[simp] theorem zok42 : zeroOk Tryd.prog 42 := zok_mk info42 rfl
@[simp] theorem cellsOf43 : Tryd.prog.cellsOf 43 = 1 := by kernel_rfl
@[simp] theorem info43 : Tryd.prog.info? 43 = some Tryd.t43 := by kernel_rfl
@[simp] theorem zok43 : zeroOk Tryd.prog 43 := zok_mk info43 rfl
@[simp] theorem cellsOf44 : Tryd.prog.cellsOf 44 = 1 := by kernel_rfl
@[simp] theorem info44 : Tryd.prog.info? 44 = some Tryd.t44 := by kernel_rfl
@[simp] theorem zok44 : zeroOk Tryd.prog 44 := zok_mk info44 rfl
@[simp] theorem cellsOf45 : Tryd.prog.cellsOf 45 = 1 := by kernel_rfl
@[simp] theorem info45 : Tryd.prog.info? 45 = some Tryd.t45 := by kernel_rfl
@[simp] theorem zok45 : zeroOk Tryd.prog 45 := zok_mk info45 rfl
@[simp] theorem cellsOf46 : Tryd.prog.cellsOf 46 = 1 := by kernel_rfl
@[simp] theorem info46 : Tryd.prog.info? 46 = some Tryd.t46 := by kernel_rfl
@[simp] theorem zok46 : zeroOk Tryd.prog 46 := zok_mk info46 rfl
@[simp] theorem cellsOf47 : Tryd.prog.cellsOf 47 = 1 := by kernel_rfl
@[simp] theorem info47 : Tryd.prog.info? 47 = some Tryd.t47 := by kernel_rfl
@[simp] theorem zok47 : zeroOk Tryd.prog 47 := zok_mk info47 rfl
@[simp] theorem cellsOf48 : Tryd.prog.cellsOf 48 = 1 := by kernel_rfl
@[simp] theorem info48 : Tryd.prog.info? 48 = some Tryd.t48 := by kernel_rfl
@[simp] theorem zok48 : zeroOk Tryd.prog 48 := zok_mk info48 rfl
@[simp] theorem cellsOf49 : Tryd.prog.cellsOf 49 = 1 := by kernel_rfl
@[simp] theorem info49 : Tryd.prog.info? 49 = some Tryd.t49 := by kernel_rfl
@[simp] theorem zok49 : zeroOk Tryd.prog 49 := zok_mk info49 rfl
@[simp] theorem cellsOf50 : Tryd.prog.cellsOf 50 = 1 := by kernel_rfl
@[simp] theorem info50 : Tryd.prog.info? 50 = some Tryd.t50 := by kernel_rfl
@[simp] theorem zok50 : zeroOk Tryd.prog 50 := zok_mk info50 rfl
@[simp] theorem cellsOf51 : Tryd.prog.cellsOf 51 = 1 := by kernel_rfl
@[simp] theorem info51 : Tryd.prog.info? 51 = some Tryd.t51 := by kernel_rfl
@[simp] theorem zok51 : zeroOk Tryd.prog 51 := zok_mk info51 rfl
@[simp] theorem cellsOf52 : Tryd.prog.cellsOf 52 = 1 := by kernel_rfl
@[simp] theorem info52 : Tryd.prog.info? 52 = some Tryd.t52 := by kernel_rfl
@[simp] theorem zok52 : zeroOk Tryd.prog 52 := zok_mk info52 rfl
@[simp] theorem cellsOf53 : Tryd.prog.cellsOf 53 = 1 := by kernel_rfl
@[simp] theorem info53 : Tryd.prog.info? 53 = some Tryd.t53 := by kernel_rfl
@[simp] theorem zok53 : zeroOk Tryd.prog 53 := zok_mk info53 rfl
@[simp] theorem cellsOf54 : Tryd.prog.cellsOf 54 = 3 := by kernel_rfl
@[simp] theorem info54 : Tryd.prog.info? 54 = some Tryd.t54 := by kernel_rfl
@[simp] theorem zok54 : zeroOk Tryd.prog 54 := zok_mk info54 rfl
@[simp] theorem cellsOf55 : Tryd.prog.cellsOf 55 = 3 := by kernel_rfl
@[simp] theorem info55 : Tryd.prog.info? 55 = some Tryd.t55 := by kernel_rfl
@[simp] theorem zok55 : zeroOk Tryd.prog 55 := zok_mk info55 rfl
@[simp] theorem cellsOf56 : Tryd.prog.cellsOf 56 = 1 := by kernel_rfl
@[simp] theorem info56 : Tryd.prog.info? 56 = some Tryd.t56 := by kernel_rfl
@[simp] theorem zok56 : zeroOk Tryd.prog 56 := zok_mk info56 rfl
@[simp] theorem cellsOf57 : Tryd.prog.cellsOf 57 = 1 := by kernel_rfl
@[simp] theorem info57 : Tryd.prog.info? 57 = some Tryd.t57 := by kernel_rfl
@[simp] theorem zok57 : zeroOk Tryd.prog 57 := zok_mk info57 rfl
@[simp] theorem cellsOf58 : Tryd.prog.cellsOf 58 = 2 := by kernel_rfl
@[simp] theorem info58 : Tryd.prog.info? 58 = some Tryd.t58 := by kernel_rfl
@[simp] theorem zok58 : zeroOk Tryd.prog 58 := zok_mk info58 rfl
@[simp] theorem cellsOf59 : Tryd.prog.cellsOf 59 = 2 := by kernel_rfl
@[simp] theorem info59 : Tryd.prog.info? 59 = some Tryd.t59 := by kernel_rfl
@[simp] theorem zok59 : zeroOk Tryd.prog 59 := zok_mk info59 rfl
@[simp] theorem cellsOf60 : Tryd.prog.cellsOf 60 = 1 := by kernel_rfl
@[simp] theorem info60 : Tryd.prog.info? 60 = some Tryd.t60 := by kernel_rfl
@[simp] theorem zok60 : zeroOk Tryd.prog 60 := zok_mk info60 rfl
@[simp] theorem cellsOf61 : Tryd.prog.cellsOf 61 = 1 := by kernel_rfl
@[simp] theorem info61 : Tryd.prog.info? 61 = some Tryd.t61 := by kernel_rfl
@[simp] theorem zok61 : zeroOk Tryd.prog 61 := zok_mk info61 rfl
@[simp] theorem cellsOf62 : Tryd.prog.cellsOf 62 = 1 := by kernel_rfl
@[simp] theorem info62 : Tryd.prog.info? 62 = some Tryd.t62 := by kernel_rfl
@[simp] theorem zok62 : zeroOk Tryd.prog 62 := zok_mk info62 rfl
@[simp] theorem cellsOf63 : Tryd.prog.cellsOf 63 = 1 := by kernel_rfl
@[simp] theorem info63 : Tryd.prog.info? 63 = some Tryd.t63 := by kernel_rfl
@[simp] theorem cellsOf64 : Tryd.prog.cellsOf 64 = 1 := by kernel_rfl
@[simp] theorem info64 : Tryd.prog.info? 64 = some Tryd.t64 := by kernel_rfl
@[simp] theorem zok64 : zeroOk Tryd.prog 64 := zok_mk info64 rfl
@[simp] theorem cellsOf65 : Tryd.prog.cellsOf 65 = 1 := by kernel_rfl
@[simp] theorem info65 : Tryd.prog.info? 65 = some Tryd.t65 := by kernel_rfl
@[simp] theorem zok65 : zeroOk Tryd.prog 65 := zok_mk info65 rfl
@[simp] theorem cellsOf66 : Tryd.prog.cellsOf 66 = 1 := by kernel_rfl
@[simp] theorem info66 : Tryd.prog.info? 66 = some Tryd.t66 := by kernel_rfl
@[simp] theorem zok66 : zeroOk Tryd.prog 66 := zok_mk info66 rfl
@[simp] theorem cellsOf67 : Tryd.prog.cellsOf 67 = 1 := by kernel_rfl
@[simp] theorem info67 : Tryd.prog.info? 67 = some Tryd.t67 := by kernel_rfl
@[simp] theorem zok67 : zeroOk Tryd.prog 67 := zok_mk info67 rfl
@[simp] theorem cellsOf68 : Tryd.prog.cellsOf 68 = 1 := by kernel_rfl
@[simp] theorem info68 : Tryd.prog.info? 68 = some Tryd.t68 := by kernel_rfl
@[simp] theorem zok68 : zeroOk Tryd.prog 68 := zok_mk info68 rfl
@[simp] theorem cellsOf69 : Tryd.prog.cellsOf 69 = 1 := by kernel_rfl
@[simp] theorem info69 : Tryd.prog.info? 69 = some Tryd.t69 := by kernel_rfl
@[simp] theorem zok69 : zeroOk Tryd.prog 69 := zok_mk info69 rfl
@[simp] theorem cellsOf70 : Tryd.prog.cellsOf 70 = 3 := by kernel_rfl
@[simp] theorem info70 : Tryd.prog.info? 70 = some Tryd.t70 := by kernel_rfl
@[simp] theorem zok70 : zeroOk Tryd.prog 70 := zok_mk info70 rfl
@[simp] theorem cellsOf71 : Tryd.prog.cellsOf 71 = 1 := by kernel_rfl
@[simp] theorem info71 : Tryd.prog.info? 71 = some Tryd.t71 := by kernel_rfl
@[simp] theorem zok71 : zeroOk Tryd.prog 71 := zok_mk info71 rfl
@[simp] theorem cellsOf72 : Tryd.prog.cellsOf 72 = 1 := by kernel_rfl
@[simp] theorem info72 : Tryd.prog.info? 72 = some Tryd.t72 := by kernel_rfl
@[simp] theorem zok72 : zeroOk Tryd.prog 72 := zok_mk info72 rfl
@[simp] theorem cellsOf73 : Tryd.prog.cellsOf 73 = 2 := by kernel_rfl
@[simp] theorem info73 : Tryd.prog.info? 73 = some Tryd.t73 := by kernel_rfl
@[simp] theorem zok73 : zeroOk Tryd.prog 73 := zok_mk info73 rfl
@[simp] theorem cellsOf74 : Tryd.prog.cellsOf 74 = 2 := by kernel_rfl
@[simp] theorem info74 : Tryd.prog.info? 74 = some Tryd.t74 := by kernel_rfl
@[simp] theorem zok74 : zeroOk Tryd.prog 74 := zok_mk info74 rfl
@[simp] theorem cellsOf75 : Tryd.prog.cellsOf 75 = 1 := by kernel_rfl
@[simp] theorem info75 : Tryd.prog.info? 75 = some Tryd.t75 := by kernel_rfl
@[simp] theorem zok75 : zeroOk Tryd.prog 75 := zok_mk info75 rfl
@[simp] theorem cellsOf76 : Tryd.prog.cellsOf 76 = 1 := by kernel_rfl
@[simp] theorem info76 : Tryd.prog.info? 76 = some Tryd.t76 := by kernel_rfl
@[simp] theorem zok76 : zeroOk Tryd.prog 76 := zok_mk info76 rfl
@[simp] theorem cellsOf77 : Tryd.prog.cellsOf 77 = 1 := by kernel_rfl
@[simp] theorem info77 : Tryd.prog.info? 77 = some Tryd.t77 := by kernel_rfl
@[simp] theorem zok77 : zeroOk Tryd.prog 77 := zok_mk info77 rfl
@[simp] theorem cellsOf78 : Tryd.prog.cellsOf 78 = 1 := by kernel_rfl
@[simp] theorem info78 : Tryd.prog.info? 78 = some Tryd.t78 := by kernel_rfl
@[simp] theorem cellsOf79 : Tryd.prog.cellsOf 79 = 1 := by kernel_rfl
@[simp] theorem info79 : Tryd.prog.info? 79 = some Tryd.t79 := by kernel_rfl
@[simp] theorem zok79 : zeroOk Tryd.prog 79 := zok_mk info79 rfl
@[simp] theorem cellsOf80 : Tryd.prog.cellsOf 80 = 1 := by kernel_rfl
@[simp] theorem info80 : Tryd.prog.info? 80 = some Tryd.t80 := by kernel_rfl
@[simp] theorem cellsOf81 : Tryd.prog.cellsOf 81 = 1 := by kernel_rfl
@[simp] theorem info81 : Tryd.prog.info? 81 = some Tryd.t81 := by kernel_rfl
@[simp] theorem zok81 : zeroOk Tryd.prog 81 := zok_mk info81 rfl
@[simp] theorem cellsOf82 : Tryd.prog.cellsOf 82 = 1 := by kernel_rfl
@[simp] theorem info82 : Tryd.prog.info? 82 = some Tryd.t82 := by kernel_rfl
@[simp] theorem zok82 : zeroOk Tryd.prog 82 := zok_mk info82 rfl
@[simp] theorem cellsOf83 : Tryd.prog.cellsOf 83 = 1 := by kernel_rfl
@[simp] theorem info83 : Tryd.prog.info? 83 = some Tryd.t83 := by kernel_rfl
@[simp] theorem zok83 : zeroOk Tryd.prog 83 := zok_mk info83 rfl
@[simp] theorem cellsOf84 : Tryd.prog.cellsOf 84 = 1 := by kernel_rfl
@[simp] theorem info84 : Tryd.prog.info? 84 = some Tryd.t84 := by kernel_rfl
@[simp] theorem cellsOf85 : Tryd.prog.cellsOf 85 = 1 := by kernel_rfl
@[simp] theorem info85 : Tryd.prog.info? 85 = some Tryd.t85 := by kernel_rfl
@[simp] theorem zok85 : zeroOk Tryd.prog 85 := zok_mk info85 rfl
@[simp] theorem cellsOf86 : Tryd.prog.cellsOf 86 = 1 := by kernel_rfl
@[simp] theorem info86 : Tryd.prog.info? 86 = some Tryd.t86 := by kernel_rfl
@[simp] theorem zok86 : zeroOk Tryd.prog 86 := zok_mk info86 rfl
@[simp] theorem cellsOf87 : Tryd.prog.cellsOf 87 = 1 := by kernel_rfl
@[simp] theorem info87 : Tryd.prog.info? 87 = some Tryd.t87 := by kernel_rfl
@[simp] theorem zok87 : zeroOk Tryd.prog 87 := zok_mk info87 rfl
@[simp] theorem cellsOf88 : Tryd.prog.cellsOf 88 = 1 := by kernel_rfl
@[simp] theorem info88 : Tryd.prog.info? 88 = some Tryd.t88 := by kernel_rfl
@[simp] theorem zok88 : zeroOk Tryd.prog 88 := zok_mk info88 rfl
@[simp] theorem cellsOf89 : Tryd.prog.cellsOf 89 = 1 := by kernel_rfl
@[simp] theorem info89 : Tryd.prog.info? 89 = some Tryd.t89 := by kernel_rfl
@[simp] theorem zok89 : zeroOk Tryd.prog 89 := zok_mk info89 rfl
@[simp] theorem cellsOf90 : Tryd.prog.cellsOf 90 = 2 := by kernel_rfl
@[simp] theorem info90 : Tryd.prog.info? 90 = some Tryd.t90 := by kernel_rfl
@[simp] theorem zok90 : zeroOk Tryd.prog 90 := zok_mk info90 rfl
@[simp] theorem cellsOf91 : Tryd.prog.cellsOf 91 = 2 := by kernel_rfl
@[simp] theorem info91 : Tryd.prog.info? 91 = some Tryd.t91 := by kernel_rfl
@[simp] theorem zok91 : zeroOk Tryd.prog 91 := zok_mk info91 rfl
@[simp] theorem cellsOf92 : Tryd.prog.cellsOf 92 = 1 := by kernel_rfl
@[simp] theorem info92 : Tryd.prog.info? 92 = some Tryd.t92 := by kernel_rfl
@[simp] theorem zok92 : zeroOk Tryd.prog 92 := zok_mk info92 rfl
@[simp] theorem cellsOf93 : Tryd.prog.cellsOf 93 = 1 := by kernel_rfl
@[simp] theorem info93 : Tryd.prog.info? 93 = some Tryd.t93 := by kernel_rfl
@[simp] theorem zok93 : zeroOk Tryd.prog 93 := zok_mk info93 rfl
@[simp] theorem cellsOf94 : Tryd.prog.cellsOf 94 = 1 := by kernel_rfl
@[simp] theorem info94 : Tryd.prog.info? 94 = some Tryd.t94 := by kernel_rfl
@[simp] theorem zok94 : zeroOk Tryd.prog 94 := zok_mk info94 rfl
@[simp] theorem cellsOf95 : Tryd.prog.cellsOf 95 = 1 := by kernel_rfl
@[simp] theorem info95 : Tryd.prog.info? 95 = some Tryd.t95 := by kernel_rfl
@[simp] theorem zok95 : zeroOk Tryd.prog 95 := zok_mk info95 rfl
@[simp] theorem cellsOf96 : Tryd.prog.cellsOf 96 = 1 := by kernel_rfl
@[simp] theorem info96 : Tryd.prog.info? 96 = some Tryd.t96 := by kernel_rfl
@[simp] theorem zok96 : zeroOk Tryd.prog 96 := zok_mk info96 rfl
@[simp] theorem cellsOf97 : Tryd.prog.cellsOf 97 = 1 := by kernel_rfl
@[simp] theorem info97 : Tryd.prog.info? 97 = some Tryd.t97 := by kernel_rfl
@[simp] theorem zok97 : zeroOk Tryd.prog 97 := zok_mk info97 rfl
@[simp] theorem cellsOf98 : Tryd.prog.cellsOf 98 = 1 := by kernel_rfl
@[simp] theorem info98 : Tryd.prog.info? 98 = some Tryd.t98 := by kernel_rfl
@[simp] theorem zok98 : zeroOk Tryd.prog 98 := zok_mk info98 rfl
@[simp] theorem cellsOf99 : Tryd.prog.cellsOf 99 = 1 := by kernel_rfl
@[simp] theorem info99 : Tryd.prog.info? 99 = some Tryd.t99 := by kernel_rfl
@[simp] theorem zok99 : zeroOk Tryd.prog 99 := zok_mk info99 rfl
@[simp] theorem cellsOf100 : Tryd.prog.cellsOf 100 = 1 := by kernel_rfl
@[simp] theorem info100 : Tryd.prog.info? 100 = some Tryd.t100 := by kernel_rfl
@[simp] theorem zok100 : zeroOk Tryd.prog 100 := zok_mk info100 rfl
@[simp] theorem cellsOf101 : Tryd.prog.cellsOf 101 = 1 := by kernel_rfl
@[simp] theorem info101 : Tryd.prog.info? 101 = some Tryd.t101 := by kernel_rfl
@[simp] theorem cellsOf102 : Tryd.prog.cellsOf 102 = 1 := by kernel_rfl
@[simp] theorem info102 : Tryd.prog.info? 102 = some Tryd.t102 := by kernel_rfl
@[simp] theorem zok102 : zeroOk Tryd.prog 102 := zok_mk info102 rfl
@[simp] theorem cellsOf103 : Tryd.prog.cellsOf 103 = 1 := by kernel_rfl
@[simp] theorem info103 : Tryd.prog.info? 103 = some Tryd.t103 := by kernel_rfl
@[simp] theorem zok103 : zeroOk Tryd.prog 103 := zok_mk info103 rfl
@[simp] theorem cellsOf104 : Tryd.prog.cellsOf 104 = 4 := by kernel_rfl
@[simp] theorem info104 : Tryd.prog.info? 104 = some Tryd.t104 := by kernel_rfl
@[simp] theorem zok104 : zeroOk Tryd.prog 104 := zok_mk info104 rfl
@[simp] theorem cellsOf105 : Tryd.prog.cellsOf 105 = 4 := by kernel_rfl
@[simp] theorem info105 : Tryd.prog.info? 105 = some Tryd.t105 := by kernel_rfl
@[simp] theorem zok105 : zeroOk Tryd.prog 105 := zok_mk info105 rfl
@[simp] theorem cellsOf106 : Tryd.prog.cellsOf 106 = 1 := by kernel_rfl
@[simp] theorem info106 : Tryd.prog.info? 106 = some Tryd.t106 := by kernel_rfl
@[simp] theorem cellsOf107 : Tryd.prog.cellsOf 107 = 1 := by kernel_rfl
@[simp] theorem info107 : Tryd.prog.info? 107 = some Tryd.t107 := by kernel_rfl
@[simp] theorem zok107 : zeroOk Tryd.prog 107 := zok_mk info107 rfl
@[simp] theorem cellsOf108 : Tryd.prog.cellsOf 108 = 1 := by kernel_rfl
@[simp] theorem info108 : Tryd.prog.info? 108 = some Tryd.t108 := by kernel_rfl
@[simp] theorem zok108 : zeroOk Tryd.prog 108 := zok_mk info108 rfl
@[simp] theorem cellsOf109 : Tryd.prog.cellsOf 109 = 1 := by kernel_rfl
@[simp] theorem info109 : Tryd.prog.info? 109 = some Tryd.t109 := by kernel_rfl
@[simp] theorem zok109 : zeroOk Tryd.prog 109 := zok_mk info109 rfl
@[simp] theorem cellsOf110 : Tryd.prog.cellsOf 110 = 1 := by kernel_rfl
@[simp] theorem info110 : Tryd.prog.info? 110 = some Tryd.t110 := by kernel_rfl
@[simp] theorem zok110 : zeroOk Tryd.prog 110 := zok_mk info110 rfl
@[simp] theorem cellsOf111 : Tryd.prog.cellsOf 111 = 1 := by kernel_rfl
@[simp] theorem info111 : Tryd.prog.info? 111 = some Tryd.t111 := by kernel_rfl
@[simp] theorem zok111 : zeroOk Tryd.prog 111 := zok_mk info111 rfl
@[simp] theorem cellsOf112 : Tryd.prog.cellsOf 112 = 1 := by kernel_rfl
@[simp] theorem info112 : Tryd.prog.info? 112 = some Tryd.t112 := by kernel_rfl
@[simp] theorem zok112 : zeroOk Tryd.prog 112 := zok_mk info112 rfl
@[simp] theorem cellsOf113 : Tryd.prog.cellsOf 113 = 1 := by kernel_rfl
@[simp] theorem info113 : Tryd.prog.info? 113 = some Tryd.t113 := by kernel_rfl
@[simp] theorem zok113 : zeroOk Tryd.prog 113 := zok_mk info113 rfl
@[simp] theorem cellsOf114 : Tryd.prog.cellsOf 114 = 1 := by kernel_rfl
@[simp] theorem info114 : Tryd.prog.info? 114 = some Tryd.t114 := by kernel_rfl
@[simp] theorem zok114 : zeroOk Tryd.prog 114 := zok_mk info114 rfl
@[simp] theorem cellsOf115 : Tryd.prog.cellsOf 115 = 1 := by kernel_rfl
@[simp] theorem info115 : Tryd.prog.info? 115 = some Tryd.t115 := by kernel_rfl
@[simp] theorem zok115 : zeroOk Tryd.prog 115 := zok_mk info115 rfl
@[simp] theorem cellsOf116 : Tryd.prog.cellsOf 116 = 1 := by kernel_rfl
@[simp] theorem info116 : Tryd.prog.info? 116 = some Tryd.t116 := by kernel_rfl
@[simp] theorem zok116 : zeroOk Tryd.prog 116 := zok_mk info116 rfl
@[simp] theorem cellsOf117 : Tryd.prog.cellsOf 117 = 1 := by kernel_rfl
@[simp] theorem info117 : Tryd.prog.info? 117 = some Tryd.t117 := by kernel_rfl
@[simp] theorem zok117 : zeroOk Tryd.prog 117 := zok_mk info117 rfl
@[simp] theorem cellsOf118 : Tryd.prog.cellsOf 118 = 1 := by kernel_rfl
@[simp] theorem info118 : Tryd.prog.info? 118 = some Tryd.t118 := by kernel_rfl
@[simp] theorem zok118 : zeroOk Tryd.prog 118 := zok_mk info118 rfl
@[simp] theorem cellsOf119 : Tryd.prog.cellsOf 119 = 1 := by kernel_rfl
@[simp] theorem info119 : Tryd.prog.info? 119 = some Tryd.t119 := by kernel_rfl
@[simp] theorem zok119 : zeroOk Tryd.prog 119 := zok_mk info119 rfl
@[simp] theorem cellsOf120 : Tryd.prog.cellsOf 120 = 1 := by kernel_rfl
@[simp] theorem info120 : Tryd.prog.info? 120 = some Tryd.t120 := by kernel_rfl
@[simp] theorem zok120 : zeroOk Tryd.prog 120 := zok_mk info120 rfl
@[simp] theorem cellsOf121 : Tryd.prog.cellsOf 121 = 1 := by kernel_rfl
@[simp] theorem info121 : Tryd.prog.info? 121 = some Tryd.t121 := by kernel_rfl
@[simp] theorem cellsOf122 : Tryd.prog.cellsOf 122 = 1 := by kernel_rfl
@[simp] theorem info122 : Tryd.prog.info? 122 = some Tryd.t122 := by kernel_rfl
@[simp] theorem zok122 : zeroOk Tryd.prog 122 := zok_mk info122 rfl
@[simp] theorem cellsOf123 : Tryd.prog.cellsOf 123 = 1 := by kernel_rfl
@[simp] theorem info123 : Tryd.prog.info? 123 = some Tryd.t123 := by kernel_rfl
@[simp] theorem zok123 : zeroOk Tryd.prog 123 := zok_mk info123 rfl
@[simp] theorem cellsOf124 : Tryd.prog.cellsOf 124 = 24 := by kernel_rfl
@[simp] theorem info124 : Tryd.prog.info? 124 = some Tryd.t124 := by kernel_rfl
@[simp] theorem zok124 : zeroOk Tryd.prog 124 := zok_mk info124 rfl
@[simp] theorem cellsOf125 : Tryd.prog.cellsOf 125 = 1 := by kernel_rfl
@[simp] theorem info125 : Tryd.prog.info? 125 = some Tryd.t125 := by kernel_rfl
@[simp] theorem zok125 : zeroOk Tryd.prog 125 := zok_mk info125 rfl
@[simp] theorem cellsOf126 : Tryd.prog.cellsOf 126 = 1 := by kernel_rfl
@[simp] theorem info126 : Tryd.prog.info? 126 = some Tryd.t126 := by kernel_rfl
@[simp] theorem zok126 : zeroOk Tryd.prog 126 := zok_mk info126 rfl
@[simp] theorem cellsOf127 : Tryd.prog.cellsOf 127 = 1 := by kernel_rfl
@[simp] theorem info127 : Tryd.prog.info? 127 = some Tryd.t127 := by kernel_rfl
@[simp] theorem zok127 : zeroOk Tryd.prog 127 := zok_mk info127 rfl
@[simp] theorem cellsOf128 : Tryd.prog.cellsOf 128 = 1 := by kernel_rfl
@[simp] theorem info128 : Tryd.prog.info? 128 = some Tryd.t128 := by kernel_rfl
@[simp] theorem cellsOf129 : Tryd.prog.cellsOf 129 = 1 := by kernel_rfl
@[simp] theorem info129 : Tryd.prog.info? 129 = some Tryd.t129 := by kernel_rfl
@[simp] theorem zok129 : zeroOk Tryd.prog 129 := zok_mk info129 rfl
@[simp] theorem cellsOf130 : Tryd.prog.cellsOf 130 = 1 := by kernel_rfl
@[simp] theorem info130 : Tryd.prog.info? 130 = some Tryd.t130 := by kernel_rfl
@[simp] theorem zok130 : zeroOk Tryd.prog 130 := zok_mk info130 rfl
@[simp] theorem cellsOf131 : Tryd.prog.cellsOf 131 = 1 := by kernel_rfl
@[simp] theorem info131 : Tryd.prog.info? 131 = some Tryd.t131 := by kernel_rfl
@[simp] theorem cellsOf132 : Tryd.prog.cellsOf 132 = 1 := by kernel_rfl
@[simp] theorem info132 : Tryd.prog.info? 132 = some Tryd.t132 := by kernel_rfl
@[simp] theorem zok132 : zeroOk Tryd.prog 132 := zok_mk info132 rfl
@[simp] theorem cellsOf133 : Tryd.prog.cellsOf 133 = 1 := by kernel_rfl
@[simp] theorem info133 : Tryd.prog.info? 133 = some Tryd.t133 := by kernel_rfl
@[simp] theorem zok133 : zeroOk Tryd.prog 133 := zok_mk info133 rfl
@[simp] theorem cellsOf134 : Tryd.prog.cellsOf 134 = 1 := by kernel_rfl
@[simp] theorem info134 : Tryd.prog.info? 134 = some Tryd.t134 := by kernel_rfl
@[simp] theorem zok134 : zeroOk Tryd.prog 134 := zok_mk info134 rfl
@[simp] theorem cellsOf135 : Tryd.prog.cellsOf 135 = 1 := by kernel_rfl
@[simp] theorem info135 : Tryd.prog.info? 135 = some Tryd.t135 := by kernel_rfl
@[simp] theorem zok135 : zeroOk Tryd.prog 135 := zok_mk info135 rfl
@[simp] theorem cellsOf136 : Tryd.prog.cellsOf 136 = 1 := by kernel_rfl
@[simp] theorem info136 : Tryd.prog.info? 136 = some Tryd.t136 := by kernel_rfl
@[simp] theorem zok136 : zeroOk Tryd.prog 136 := zok_mk info136 rfl
@[simp] theorem cellsOf137 : Tryd.prog.cellsOf 137 = 1 := by kernel_rfl
@[simp] theorem info137 : Tryd.prog.info? 137 = some Tryd.t137 := by kernel_rfl
@[simp] theorem zok137 : zeroOk Tryd.prog 137 := zok_mk info137 rfl
@[simp] theorem cellsOf138 : Tryd.prog.cellsOf 138 = 1 := by kernel_rfl
@[simp] theorem info138 : Tryd.prog.info? 138 = some Tryd.t138 := by kernel_rfl
@[simp] theorem zok138 : zeroOk Tryd.prog 138 := zok_mk info138 rfl
@[simp] theorem cellsOf139 : Tryd.prog.cellsOf 139 = 1 := by kernel_rfl
@[simp] theorem info139 : Tryd.prog.info? 139 = some Tryd.t139 := by kernel_rfl
@[simp] theorem zok139 : zeroOk Tryd.prog 139 := zok_mk info139 rfl
@[simp] theorem cellsOf140 : Tryd.prog.cellsOf 140 = 1 := by kernel_rfl
@[simp] theorem info140 : Tryd.prog.info? 140 = some Tryd.t140 := by kernel_rfl
@[simp] theorem zok140 : zeroOk Tryd.prog 140 := zok_mk info140 rfl
@[simp] theorem cellsOf141 : Tryd.prog.cellsOf 141 = 20 := by kernel_rfl
@[simp] theorem info141 : Tryd.prog.info? 141 = some Tryd.t141 := by kernel_rfl
@[simp] theorem zok141 : zeroOk Tryd.prog 141 := zok_mk info141 rfl
@[simp] theorem cellsOf142 : Tryd.prog.cellsOf 142 = 1 := by kernel_rfl
@[simp] theorem info142 : Tryd.prog.info? 142 = some Tryd.t142 := by kernel_rfl
@[simp] theorem zok142 : zeroOk Tryd.prog 142 := zok_mk info142 rfl
@[simp] theorem cellsOf143 : Tryd.prog.cellsOf 143 = 65 := by kernel_rfl
@[simp] theorem info143 : Tryd.prog.info? 143 = some Tryd.t143 := by kernel_rfl
@[simp] theorem zok143 : zeroOk Tryd.prog 143 := zok_mk info143 rfl
@[simp] theorem cellsOf144 : Tryd.prog.cellsOf 144 = 1 := by kernel_rfl
@[simp] theorem info144 : Tryd.prog.info? 144 = some Tryd.t144 := by kernel_rfl
@[simp] theorem zok144 : zeroOk Tryd.prog 144 := zok_mk info144 rfl
@[simp] theorem cellsOf145 : Tryd.prog.cellsOf 145 = 1 := by kernel_rfl
@[simp] theorem info145 : Tryd.prog.info? 145 = some Tryd.t145 := by kernel_rfl
@[simp] theorem zok145 : zeroOk Tryd.prog 145 := zok_mk info145 rfl
@[simp] theorem cellsOf146 : Tryd.prog.cellsOf 146 = 256 := by kernel_rfl
@[simp] theorem info146 : Tryd.prog.info? 146 = some Tryd.t146 := by kernel_rfl
@[simp] theorem zok146 : zeroOk Tryd.prog 146 := zok_mk info146 rfl
@[simp] theorem cellsOf147 : Tryd.prog.cellsOf 147 = 2 := by kernel_rfl
@[simp] theorem info147 : Tryd.prog.info? 147 = some Tryd.t147 := by kernel_rfl
@[simp] theorem zok147 : zeroOk Tryd.prog 147 := zok_mk info147 rfl
@[simp] theorem cellsOf148 : Tryd.prog.cellsOf 148 = 2 := by kernel_rfl
@[simp] theorem info148 : Tryd.prog.info? 148 = some Tryd.t148 := by kernel_rfl
@[simp] theorem zok148 : zeroOk Tryd.prog 148 := zok_mk info148 rfl
@[simp] theorem cellsOf149 : Tryd.prog.cellsOf 149 = 32 := by kernel_rfl
@[simp] theorem info149 : Tryd.prog.info? 149 = some Tryd.t149 := by kernel_rfl
@[simp] theorem zok149 : zeroOk Tryd.prog 149 := zok_mk info149 rfl
@[simp] theorem cellsOf150 : Tryd.prog.cellsOf 150 = 1 := by kernel_rfl
@[simp] theorem info150 : Tryd.prog.info? 150 = some Tryd.t150 := by kernel_rfl
@[simp] theorem cellsOf151 : Tryd.prog.cellsOf 151 = 1 := by kernel_rfl
@[simp] theorem info151 : Tryd.prog.info? 151 = some Tryd.t151 := by kernel_rfl
@[simp] theorem zok151 : zeroOk Tryd.prog 151 := zok_mk info151 rfl
@[simp] theorem cellsOf152 : Tryd.prog.cellsOf 152 = 32 := by kernel_rfl
@[simp] theorem info152 : Tryd.prog.info? 152 = some Tryd.t152 := by kernel_rfl
@[simp] theorem zok152 : zeroOk Tryd.prog 152 := zok_mk info152 rfl
@[simp] theorem cellsOf153 : Tryd.prog.cellsOf 153 = 64 := by kernel_rfl
@[simp] theorem info153 : Tryd.prog.info? 153 = some Tryd.t153 := by kernel_rfl
@[simp] theorem zok153 : zeroOk Tryd.prog 153 := zok_mk info153 rfl
@[simp] theorem cellsOf154 : Tryd.prog.cellsOf 154 = 4 := by kernel_rfl
@[simp] theorem info154 : Tryd.prog.info? 154 = some Tryd.t154 := by kernel_rfl
@[simp] theorem zok154 : zeroOk Tryd.prog 154 := zok_mk info154 rfl
@[simp] theorem cellsOf155 : Tryd.prog.cellsOf 155 = 4 := by kernel_rfl
@[simp] theorem info155 : Tryd.prog.info? 155 = some Tryd.t155 := by kernel_rfl
@[simp] theorem zok155 : zeroOk Tryd.prog 155 := zok_mk info155 rfl
@[simp] theorem cellsOf156 : Tryd.prog.cellsOf 156 = 0 := by kernel_rfl
@[simp] theorem info156 : Tryd.prog.info? 156 = some Tryd.t156 := by kernel_rfl
@[simp] theorem zok156 : zeroOk Tryd.prog 156 := zok_mk info156 rfl
@[simp] theorem cellsOf157 : Tryd.prog.cellsOf 157 = 0 := by kernel_rfl
@[simp] theorem info157 : Tryd.prog.info? 157 = some Tryd.t157 := by kernel_rfl
@[simp] theorem zok157 : zeroOk Tryd.prog 157 := zok_mk info157 rfl
@[simp] theorem cellsOf158 : Tryd.prog.cellsOf 158 = 0 := by kernel_rfl
@[simp] theorem info158 : Tryd.prog.info? 158 = some Tryd.t158 := by kernel_rfl
@[simp] theorem zok158 : zeroOk Tryd.prog 158 := zok_mk info158 rfl
@[simp] theorem cellsOf159 : Tryd.prog.cellsOf 159 = 1 := by kernel_rfl
@[simp] theorem info159 : Tryd.prog.info? 159 = some Tryd.t159 := by kernel_rfl
@[simp] theorem zok159 : zeroOk Tryd.prog 159 := zok_mk info159 rfl
@[simp] theorem cellsOf160 : Tryd.prog.cellsOf 160 = 1 := by kernel_rfl
@[simp] theorem info160 : Tryd.prog.info? 160 = some Tryd.t160 := by kernel_rfl
@[simp] theorem zok160 : zeroOk Tryd.prog 160 := zok_mk info160 rfl
@[simp] theorem cellsOf161 : Tryd.prog.cellsOf 161 = 1 := by kernel_rfl
@[simp] theorem info161 : Tryd.prog.info? 161 = some Tryd.t161 := by kernel_rfl
@[simp] theorem zok161 : zeroOk Tryd.prog 161 := zok_mk info161 rfl
@[simp] theorem cellsOf162 : Tryd.prog.cellsOf 162 = 1 := by kernel_rfl
@[simp] theorem info162 : Tryd.prog.info? 162 = some Tryd.t162 := by kernel_rfl
@[simp] theorem zok162 : zeroOk Tryd.prog 162 := zok_mk info162 rfl
@[simp] theorem cellsOf163 : Tryd.prog.cellsOf 163 = 1 := by kernel_rfl
@[simp] theorem info163 : Tryd.prog.info? 163 = some Tryd.t163 := by kernel_rfl
@[simp] theorem zok163 : zeroOk Tryd.prog 163 := zok_mk info163 rfl
@[simp] theorem cellsOf164 : Tryd.prog.cellsOf 164 = 11 := by kernel_rfl
@[simp] theorem info164 : Tryd.prog.info? 164 = some Tryd.t164 := by kernel_rfl
@[simp] theorem zok164 : zeroOk Tryd.prog 164 := zok_mk info164 rfl
@[simp] theorem cellsOf165 : Tryd.prog.cellsOf 165 = 11 := by kernel_rfl
@[simp] theorem info165 : Tryd.prog.info? 165 = some Tryd.t165 := by kernel_rfl
@[simp] theorem zok165 : zeroOk Tryd.prog 165 := zok_mk info165 rfl
end Go.Proofs.YthalijmfhllgbaaDoor
