/-
  Facts on the types of the translation: cells, info. No condition.
-/
import Derived.Test.YtohfhephkjihfaaGreatProg
import Derived.Test.YtohfhephkjihfaaGreatSxS
namespace Go.Proofs.YtohfhephkjihfaaGreat
open Go.Sx Tryz
set_option maxRecDepth 100000
@[simp] theorem cellsOf0 : prog.cellsOf 0 = 1 := by kernel_rfl
@[simp] theorem info0 : prog.info? 0 = some t0 := by kernel_rfl
@[simp] theorem cellsOf1 : prog.cellsOf 1 = 1 := by kernel_rfl
@[simp] theorem info1 : prog.info? 1 = some t1 := by kernel_rfl
@[simp] theorem zok1 : zeroOk prog 1 := zok_mk info1 rfl
@[simp] theorem cellsOf2 : prog.cellsOf 2 = 1 := by kernel_rfl
@[simp] theorem info2 : prog.info? 2 = some t2 := by kernel_rfl
@[simp] theorem zok2 : zeroOk prog 2 := zok_mk info2 rfl
@[simp] theorem cellsOf3 : prog.cellsOf 3 = 1 := by kernel_rfl
@[simp] theorem info3 : prog.info? 3 = some t3 := by kernel_rfl
@[simp] theorem zok3 : zeroOk prog 3 := zok_mk info3 rfl
@[simp] theorem cellsOf4 : prog.cellsOf 4 = 1 := by kernel_rfl
@[simp] theorem info4 : prog.info? 4 = some t4 := by kernel_rfl
@[simp] theorem zok4 : zeroOk prog 4 := zok_mk info4 rfl
@[simp] theorem cellsOf5 : prog.cellsOf 5 = 1 := by kernel_rfl
@[simp] theorem info5 : prog.info? 5 = some t5 := by kernel_rfl
@[simp] theorem zok5 : zeroOk prog 5 := zok_mk info5 rfl
@[simp] theorem cellsOf6 : prog.cellsOf 6 = 1 := by kernel_rfl
@[simp] theorem info6 : prog.info? 6 = some t6 := by kernel_rfl
@[simp] theorem zok6 : zeroOk prog 6 := zok_mk info6 rfl
@[simp] theorem cellsOf7 : prog.cellsOf 7 = 4 := by kernel_rfl
@[simp] theorem info7 : prog.info? 7 = some t7 := by kernel_rfl
@[simp] theorem zok7 : zeroOk prog 7 := zok_mk info7 rfl
@[simp] theorem cellsOf8 : prog.cellsOf 8 = 4 := by kernel_rfl
@[simp] theorem info8 : prog.info? 8 = some t8 := by kernel_rfl
@[simp] theorem zok8 : zeroOk prog 8 := zok_mk info8 rfl
@[simp] theorem cellsOf9 : prog.cellsOf 9 = 1 := by kernel_rfl
@[simp] theorem info9 : prog.info? 9 = some t9 := by kernel_rfl
@[simp] theorem zok9 : zeroOk prog 9 := zok_mk info9 rfl
@[simp] theorem cellsOf10 : prog.cellsOf 10 = 1 := by kernel_rfl
@[simp] theorem info10 : prog.info? 10 = some t10 := by kernel_rfl
@[simp] theorem zok10 : zeroOk prog 10 := zok_mk info10 rfl
@[simp] theorem cellsOf11 : prog.cellsOf 11 = 1 := by kernel_rfl
@[simp] theorem info11 : prog.info? 11 = some t11 := by kernel_rfl
@[simp] theorem zok11 : zeroOk prog 11 := zok_mk info11 rfl
@[simp] theorem cellsOf12 : prog.cellsOf 12 = 1 := by kernel_rfl
@[simp] theorem info12 : prog.info? 12 = some t12 := by kernel_rfl
@[simp] theorem zok12 : zeroOk prog 12 := zok_mk info12 rfl
@[simp] theorem cellsOf13 : prog.cellsOf 13 = 2 := by kernel_rfl
@[simp] theorem info13 : prog.info? 13 = some t13 := by kernel_rfl
@[simp] theorem zok13 : zeroOk prog 13 := zok_mk info13 rfl
@[simp] theorem cellsOf14 : prog.cellsOf 14 = 2 := by kernel_rfl
@[simp] theorem info14 : prog.info? 14 = some t14 := by kernel_rfl
@[simp] theorem zok14 : zeroOk prog 14 := zok_mk info14 rfl
@[simp] theorem cellsOf15 : prog.cellsOf 15 = 1 := by kernel_rfl
@[simp] theorem info15 : prog.info? 15 = some t15 := by kernel_rfl
@[simp] theorem zok15 : zeroOk prog 15 := zok_mk info15 rfl
@[simp] theorem cellsOf16 : prog.cellsOf 16 = 1 := by kernel_rfl
@[simp] theorem info16 : prog.info? 16 = some t16 := by kernel_rfl
@[simp] theorem zok16 : zeroOk prog 16 := zok_mk info16 rfl
@[simp] theorem cellsOf17 : prog.cellsOf 17 = 1 := by kernel_rfl
@[simp] theorem info17 : prog.info? 17 = some t17 := by kernel_rfl
@[simp] theorem zok17 : zeroOk prog 17 := zok_mk info17 rfl
@[simp] theorem cellsOf18 : prog.cellsOf 18 = 1 := by kernel_rfl
@[simp] theorem info18 : prog.info? 18 = some t18 := by kernel_rfl
@[simp] theorem zok18 : zeroOk prog 18 := zok_mk info18 rfl
@[simp] theorem cellsOf19 : prog.cellsOf 19 = 1 := by kernel_rfl
@[simp] theorem info19 : prog.info? 19 = some t19 := by kernel_rfl
@[simp] theorem zok19 : zeroOk prog 19 := zok_mk info19 rfl
@[simp] theorem cellsOf20 : prog.cellsOf 20 = 1 := by kernel_rfl
@[simp] theorem info20 : prog.info? 20 = some t20 := by kernel_rfl
@[simp] theorem zok20 : zeroOk prog 20 := zok_mk info20 rfl
@[simp] theorem cellsOf21 : prog.cellsOf 21 = 1 := by kernel_rfl
@[simp] theorem info21 : prog.info? 21 = some t21 := by kernel_rfl
@[simp] theorem zok21 : zeroOk prog 21 := zok_mk info21 rfl
@[simp] theorem cellsOf22 : prog.cellsOf 22 = 1 := by kernel_rfl
@[simp] theorem info22 : prog.info? 22 = some t22 := by kernel_rfl
@[simp] theorem zok22 : zeroOk prog 22 := zok_mk info22 rfl
@[simp] theorem cellsOf23 : prog.cellsOf 23 = 1 := by kernel_rfl
@[simp] theorem info23 : prog.info? 23 = some t23 := by kernel_rfl
@[simp] theorem zok23 : zeroOk prog 23 := zok_mk info23 rfl
@[simp] theorem cellsOf24 : prog.cellsOf 24 = 1 := by kernel_rfl
@[simp] theorem info24 : prog.info? 24 = some t24 := by kernel_rfl
@[simp] theorem zok24 : zeroOk prog 24 := zok_mk info24 rfl
@[simp] theorem cellsOf25 : prog.cellsOf 25 = 1 := by kernel_rfl
@[simp] theorem info25 : prog.info? 25 = some t25 := by kernel_rfl
@[simp] theorem zok25 : zeroOk prog 25 := zok_mk info25 rfl
@[simp] theorem cellsOf26 : prog.cellsOf 26 = 1 := by kernel_rfl
@[simp] theorem info26 : prog.info? 26 = some t26 := by kernel_rfl
@[simp] theorem zok26 : zeroOk prog 26 := zok_mk info26 rfl
@[simp] theorem cellsOf27 : prog.cellsOf 27 = 1 := by kernel_rfl
@[simp] theorem info27 : prog.info? 27 = some t27 := by kernel_rfl
@[simp] theorem zok27 : zeroOk prog 27 := zok_mk info27 rfl
@[simp] theorem cellsOf28 : prog.cellsOf 28 = 1 := by kernel_rfl
@[simp] theorem info28 : prog.info? 28 = some t28 := by kernel_rfl
@[simp] theorem zok28 : zeroOk prog 28 := zok_mk info28 rfl
@[simp] theorem cellsOf29 : prog.cellsOf 29 = 1 := by kernel_rfl
@[simp] theorem info29 : prog.info? 29 = some t29 := by kernel_rfl
@[simp] theorem zok29 : zeroOk prog 29 := zok_mk info29 rfl
@[simp] theorem cellsOf30 : prog.cellsOf 30 = 3 := by kernel_rfl
@[simp] theorem info30 : prog.info? 30 = some t30 := by kernel_rfl
@[simp] theorem zok30 : zeroOk prog 30 := zok_mk info30 rfl
@[simp] theorem cellsOf31 : prog.cellsOf 31 = 3 := by kernel_rfl
@[simp] theorem info31 : prog.info? 31 = some t31 := by kernel_rfl
@[simp] theorem zok31 : zeroOk prog 31 := zok_mk info31 rfl
@[simp] theorem cellsOf32 : prog.cellsOf 32 = 1 := by kernel_rfl
@[simp] theorem info32 : prog.info? 32 = some t32 := by kernel_rfl
@[simp] theorem zok32 : zeroOk prog 32 := zok_mk info32 rfl
@[simp] theorem cellsOf33 : prog.cellsOf 33 = 1 := by kernel_rfl
@[simp] theorem info33 : prog.info? 33 = some t33 := by kernel_rfl
@[simp] theorem zok33 : zeroOk prog 33 := zok_mk info33 rfl
@[simp] theorem cellsOf34 : prog.cellsOf 34 = 1 := by kernel_rfl
@[simp] theorem info34 : prog.info? 34 = some t34 := by kernel_rfl
@[simp] theorem zok34 : zeroOk prog 34 := zok_mk info34 rfl
@[simp] theorem cellsOf35 : prog.cellsOf 35 = 1 := by kernel_rfl
@[simp] theorem info35 : prog.info? 35 = some t35 := by kernel_rfl
@[simp] theorem zok35 : zeroOk prog 35 := zok_mk info35 rfl
@[simp] theorem cellsOf36 : prog.cellsOf 36 = 1 := by kernel_rfl
@[simp] theorem info36 : prog.info? 36 = some t36 := by kernel_rfl
@[simp] theorem zok36 : zeroOk prog 36 := zok_mk info36 rfl
@[simp] theorem cellsOf37 : prog.cellsOf 37 = 1 := by kernel_rfl
@[simp] theorem info37 : prog.info? 37 = some t37 := by kernel_rfl
@[simp] theorem zok37 : zeroOk prog 37 := zok_mk info37 rfl
@[simp] theorem cellsOf38 : prog.cellsOf 38 = 1 := by kernel_rfl
@[simp] theorem info38 : prog.info? 38 = some t38 := by kernel_rfl
@[simp] theorem cellsOf39 : prog.cellsOf 39 = 1 := by kernel_rfl
@[simp] theorem info39 : prog.info? 39 = some t39 := by kernel_rfl
@[simp] theorem zok39 : zeroOk prog 39 := zok_mk info39 rfl
@[simp] theorem cellsOf40 : prog.cellsOf 40 = 1 := by kernel_rfl
@[simp] theorem info40 : prog.info? 40 = some t40 := by kernel_rfl
@[simp] theorem cellsOf41 : prog.cellsOf 41 = 1 := by kernel_rfl
@[simp] theorem info41 : prog.info? 41 = some t41 := by kernel_rfl
@[simp] theorem zok41 : zeroOk prog 41 := zok_mk info41 rfl
@[simp] theorem cellsOf42 : prog.cellsOf 42 = 1 := by kernel_rfl
@[simp] theorem info42 : prog.info? 42 = some t42 := by kernel_rfl
@[simp] theorem zok42 : zeroOk prog 42 := zok_mk info42 rfl
@[simp] theorem cellsOf43 : prog.cellsOf 43 = 32 := by kernel_rfl
@[simp] theorem info43 : prog.info? 43 = some t43 := by kernel_rfl
@[simp] theorem zok43 : zeroOk prog 43 := zok_mk info43 rfl
@[simp] theorem cellsOf44 : prog.cellsOf 44 = 1 := by kernel_rfl
@[simp] theorem info44 : prog.info? 44 = some t44 := by kernel_rfl
@[simp] theorem zok44 : zeroOk prog 44 := zok_mk info44 rfl
@[simp] theorem cellsOf45 : prog.cellsOf 45 = 1 := by kernel_rfl
@[simp] theorem info45 : prog.info? 45 = some t45 := by kernel_rfl
@[simp] theorem zok45 : zeroOk prog 45 := zok_mk info45 rfl
@[simp] theorem cellsOf46 : prog.cellsOf 46 = 1 := by kernel_rfl
@[simp] theorem info46 : prog.info? 46 = some t46 := by kernel_rfl
@[simp] theorem zok46 : zeroOk prog 46 := zok_mk info46 rfl
@[simp] theorem cellsOf47 : prog.cellsOf 47 = 2 := by kernel_rfl
@[simp] theorem info47 : prog.info? 47 = some t47 := by kernel_rfl
@[simp] theorem zok47 : zeroOk prog 47 := zok_mk info47 rfl
@[simp] theorem cellsOf48 : prog.cellsOf 48 = 2 := by kernel_rfl
@[simp] theorem info48 : prog.info? 48 = some t48 := by kernel_rfl
@[simp] theorem zok48 : zeroOk prog 48 := zok_mk info48 rfl
@[simp] theorem cellsOf49 : prog.cellsOf 49 = 1 := by kernel_rfl
@[simp] theorem info49 : prog.info? 49 = some t49 := by kernel_rfl
@[simp] theorem zok49 : zeroOk prog 49 := zok_mk info49 rfl
@[simp] theorem cellsOf50 : prog.cellsOf 50 = 1 := by kernel_rfl
@[simp] theorem info50 : prog.info? 50 = some t50 := by kernel_rfl
@[simp] theorem zok50 : zeroOk prog 50 := zok_mk info50 rfl
@[simp] theorem cellsOf51 : prog.cellsOf 51 = 1 := by kernel_rfl
@[simp] theorem info51 : prog.info? 51 = some t51 := by kernel_rfl
@[simp] theorem zok51 : zeroOk prog 51 := zok_mk info51 rfl
@[simp] theorem cellsOf52 : prog.cellsOf 52 = 1 := by kernel_rfl
@[simp] theorem info52 : prog.info? 52 = some t52 := by kernel_rfl
@[simp] theorem zok52 : zeroOk prog 52 := zok_mk info52 rfl
@[simp] theorem cellsOf53 : prog.cellsOf 53 = 1 := by kernel_rfl
@[simp] theorem info53 : prog.info? 53 = some t53 := by kernel_rfl
@[simp] theorem zok53 : zeroOk prog 53 := zok_mk info53 rfl
@[simp] theorem cellsOf54 : prog.cellsOf 54 = 1 := by kernel_rfl
@[simp] theorem info54 : prog.info? 54 = some t54 := by kernel_rfl
@[simp] theorem cellsOf55 : prog.cellsOf 55 = 1 := by kernel_rfl
@[simp] theorem info55 : prog.info? 55 = some t55 := by kernel_rfl
@[simp] theorem zok55 : zeroOk prog 55 := zok_mk info55 rfl
@[simp] theorem cellsOf56 : prog.cellsOf 56 = 1 := by kernel_rfl
@[simp] theorem info56 : prog.info? 56 = some t56 := by kernel_rfl
@[simp] theorem cellsOf57 : prog.cellsOf 57 = 1 := by kernel_rfl
@[simp] theorem info57 : prog.info? 57 = some t57 := by kernel_rfl
@[simp] theorem zok57 : zeroOk prog 57 := zok_mk info57 rfl
@[simp] theorem cellsOf58 : prog.cellsOf 58 = 1 := by kernel_rfl
@[simp] theorem info58 : prog.info? 58 = some t58 := by kernel_rfl
@[simp] theorem zok58 : zeroOk prog 58 := zok_mk info58 rfl
@[simp] theorem cellsOf59 : prog.cellsOf 59 = 1 := by kernel_rfl
@[simp] theorem info59 : prog.info? 59 = some t59 := by kernel_rfl
@[simp] theorem zok59 : zeroOk prog 59 := zok_mk info59 rfl
@[simp] theorem cellsOf60 : prog.cellsOf 60 = 8 := by kernel_rfl
@[simp] theorem info60 : prog.info? 60 = some t60 := by kernel_rfl
@[simp] theorem zok60 : zeroOk prog 60 := zok_mk info60 rfl
@[simp] theorem cellsOf61 : prog.cellsOf 61 = 1 := by kernel_rfl
@[simp] theorem info61 : prog.info? 61 = some t61 := by kernel_rfl
@[simp] theorem zok61 : zeroOk prog 61 := zok_mk info61 rfl
@[simp] theorem cellsOf62 : prog.cellsOf 62 = 64 := by kernel_rfl
@[simp] theorem info62 : prog.info? 62 = some t62 := by kernel_rfl
@[simp] theorem zok62 : zeroOk prog 62 := zok_mk info62 rfl
@[simp] theorem cellsOf63 : prog.cellsOf 63 = 8 := by kernel_rfl
@[simp] theorem info63 : prog.info? 63 = some t63 := by kernel_rfl
@[simp] theorem zok63 : zeroOk prog 63 := zok_mk info63 rfl
@[simp] theorem cellsOf64 : prog.cellsOf 64 = 1 := by kernel_rfl
@[simp] theorem info64 : prog.info? 64 = some t64 := by kernel_rfl
@[simp] theorem zok64 : zeroOk prog 64 := zok_mk info64 rfl
@[simp] theorem cellsOf65 : prog.cellsOf 65 = 1 := by kernel_rfl
@[simp] theorem info65 : prog.info? 65 = some t65 := by kernel_rfl
@[simp] theorem zok65 : zeroOk prog 65 := zok_mk info65 rfl
@[simp] theorem cellsOf66 : prog.cellsOf 66 = 1 := by kernel_rfl
@[simp] theorem info66 : prog.info? 66 = some t66 := by kernel_rfl
@[simp] theorem zok66 : zeroOk prog 66 := zok_mk info66 rfl
@[simp] theorem cellsOf67 : prog.cellsOf 67 = 1 := by kernel_rfl
@[simp] theorem info67 : prog.info? 67 = some t67 := by kernel_rfl
@[simp] theorem zok67 : zeroOk prog 67 := zok_mk info67 rfl
@[simp] theorem cellsOf68 : prog.cellsOf 68 = 1 := by kernel_rfl
@[simp] theorem info68 : prog.info? 68 = some t68 := by kernel_rfl
@[simp] theorem zok68 : zeroOk prog 68 := zok_mk info68 rfl
@[simp] theorem cellsOf69 : prog.cellsOf 69 = 1 := by kernel_rfl
@[simp] theorem info69 : prog.info? 69 = some t69 := by kernel_rfl
@[simp] theorem zok69 : zeroOk prog 69 := zok_mk info69 rfl
@[simp] theorem cellsOf70 : prog.cellsOf 70 = 1 := by kernel_rfl
@[simp] theorem info70 : prog.info? 70 = some t70 := by kernel_rfl
@[simp] theorem zok70 : zeroOk prog 70 := zok_mk info70 rfl
@[simp] theorem cellsOf71 : prog.cellsOf 71 = 1 := by kernel_rfl
@[simp] theorem info71 : prog.info? 71 = some t71 := by kernel_rfl
@[simp] theorem zok71 : zeroOk prog 71 := zok_mk info71 rfl
@[simp] theorem cellsOf72 : prog.cellsOf 72 = 1 := by kernel_rfl
@[simp] theorem info72 : prog.info? 72 = some t72 := by kernel_rfl
@[simp] theorem zok72 : zeroOk prog 72 := zok_mk info72 rfl
@[simp] theorem cellsOf73 : prog.cellsOf 73 = 2 := by kernel_rfl
@[simp] theorem info73 : prog.info? 73 = some t73 := by kernel_rfl
@[simp] theorem zok73 : zeroOk prog 73 := zok_mk info73 rfl
@[simp] theorem cellsOf74 : prog.cellsOf 74 = 2 := by kernel_rfl
@[simp] theorem info74 : prog.info? 74 = some t74 := by kernel_rfl
@[simp] theorem zok74 : zeroOk prog 74 := zok_mk info74 rfl
@[simp] theorem cellsOf75 : prog.cellsOf 75 = 1 := by kernel_rfl
@[simp] theorem info75 : prog.info? 75 = some t75 := by kernel_rfl
@[simp] theorem cellsOf76 : prog.cellsOf 76 = 1 := by kernel_rfl
@[simp] theorem info76 : prog.info? 76 = some t76 := by kernel_rfl
@[simp] theorem zok76 : zeroOk prog 76 := zok_mk info76 rfl
@[simp] theorem cellsOf77 : prog.cellsOf 77 = 1 := by kernel_rfl
@[simp] theorem info77 : prog.info? 77 = some t77 := by kernel_rfl
@[simp] theorem zok77 : zeroOk prog 77 := zok_mk info77 rfl
@[simp] theorem cellsOf78 : prog.cellsOf 78 = 1 := by kernel_rfl
@[simp] theorem info78 : prog.info? 78 = some t78 := by kernel_rfl
@[simp] theorem zok78 : zeroOk prog 78 := zok_mk info78 rfl
@[simp] theorem cellsOf79 : prog.cellsOf 79 = 1 := by kernel_rfl
@[simp] theorem info79 : prog.info? 79 = some t79 := by kernel_rfl
@[simp] theorem zok79 : zeroOk prog 79 := zok_mk info79 rfl
@[simp] theorem cellsOf80 : prog.cellsOf 80 = 1 := by kernel_rfl
@[simp] theorem info80 : prog.info? 80 = some t80 := by kernel_rfl
@[simp] theorem zok80 : zeroOk prog 80 := zok_mk info80 rfl
@[simp] theorem cellsOf81 : prog.cellsOf 81 = 1 := by kernel_rfl
@[simp] theorem info81 : prog.info? 81 = some t81 := by kernel_rfl
@[simp] theorem zok81 : zeroOk prog 81 := zok_mk info81 rfl
@[simp] theorem cellsOf82 : prog.cellsOf 82 = 1 := by kernel_rfl
@[simp] theorem info82 : prog.info? 82 = some t82 := by kernel_rfl
@[simp] theorem zok82 : zeroOk prog 82 := zok_mk info82 rfl
@[simp] theorem cellsOf83 : prog.cellsOf 83 = 1 := by kernel_rfl
@[simp] theorem info83 : prog.info? 83 = some t83 := by kernel_rfl
@[simp] theorem zok83 : zeroOk prog 83 := zok_mk info83 rfl
@[simp] theorem cellsOf84 : prog.cellsOf 84 = 1 := by kernel_rfl
@[simp] theorem info84 : prog.info? 84 = some t84 := by kernel_rfl
@[simp] theorem zok84 : zeroOk prog 84 := zok_mk info84 rfl
@[simp] theorem cellsOf85 : prog.cellsOf 85 = 1 := by kernel_rfl
@[simp] theorem info85 : prog.info? 85 = some t85 := by kernel_rfl
@[simp] theorem zok85 : zeroOk prog 85 := zok_mk info85 rfl
@[simp] theorem cellsOf86 : prog.cellsOf 86 = 1 := by kernel_rfl
@[simp] theorem info86 : prog.info? 86 = some t86 := by kernel_rfl
@[simp] theorem zok86 : zeroOk prog 86 := zok_mk info86 rfl
@[simp] theorem cellsOf87 : prog.cellsOf 87 = 1 := by kernel_rfl
@[simp] theorem info87 : prog.info? 87 = some t87 := by kernel_rfl
@[simp] theorem zok87 : zeroOk prog 87 := zok_mk info87 rfl
@[simp] theorem cellsOf88 : prog.cellsOf 88 = 1 := by kernel_rfl
@[simp] theorem info88 : prog.info? 88 = some t88 := by kernel_rfl
@[simp] theorem zok88 : zeroOk prog 88 := zok_mk info88 rfl
@[simp] theorem cellsOf89 : prog.cellsOf 89 = 1 := by kernel_rfl
@[simp] theorem info89 : prog.info? 89 = some t89 := by kernel_rfl
@[simp] theorem zok89 : zeroOk prog 89 := zok_mk info89 rfl
@[simp] theorem cellsOf90 : prog.cellsOf 90 = 1 := by kernel_rfl
@[simp] theorem info90 : prog.info? 90 = some t90 := by kernel_rfl
@[simp] theorem zok90 : zeroOk prog 90 := zok_mk info90 rfl
@[simp] theorem cellsOf91 : prog.cellsOf 91 = 1 := by kernel_rfl
@[simp] theorem info91 : prog.info? 91 = some t91 := by kernel_rfl
@[simp] theorem zok91 : zeroOk prog 91 := zok_mk info91 rfl
@[simp] theorem cellsOf92 : prog.cellsOf 92 = 1 := by kernel_rfl
@[simp] theorem info92 : prog.info? 92 = some t92 := by kernel_rfl
@[simp] theorem zok92 : zeroOk prog 92 := zok_mk info92 rfl
@[simp] theorem cellsOf93 : prog.cellsOf 93 = 1 := by kernel_rfl
@[simp] theorem info93 : prog.info? 93 = some t93 := by kernel_rfl
@[simp] theorem zok93 : zeroOk prog 93 := zok_mk info93 rfl
@[simp] theorem cellsOf94 : prog.cellsOf 94 = 1 := by kernel_rfl
@[simp] theorem info94 : prog.info? 94 = some t94 := by kernel_rfl
@[simp] theorem cellsOf95 : prog.cellsOf 95 = 1 := by kernel_rfl
@[simp] theorem info95 : prog.info? 95 = some t95 := by kernel_rfl
@[simp] theorem zok95 : zeroOk prog 95 := zok_mk info95 rfl
@[simp] theorem cellsOf96 : prog.cellsOf 96 = 1 := by kernel_rfl
@[simp] theorem info96 : prog.info? 96 = some t96 := by kernel_rfl
@[simp] theorem zok96 : zeroOk prog 96 := zok_mk info96 rfl
@[simp] theorem cellsOf97 : prog.cellsOf 97 = 1 := by kernel_rfl
@[simp] theorem info97 : prog.info? 97 = some t97 := by kernel_rfl
@[simp] theorem zok97 : zeroOk prog 97 := zok_mk info97 rfl
@[simp] theorem cellsOf98 : prog.cellsOf 98 = 1 := by kernel_rfl
@[simp] theorem info98 : prog.info? 98 = some t98 := by kernel_rfl
@[simp] theorem zok98 : zeroOk prog 98 := zok_mk info98 rfl
@[simp] theorem cellsOf99 : prog.cellsOf 99 = 1 := by kernel_rfl
@[simp] theorem info99 : prog.info? 99 = some t99 := by kernel_rfl
@[simp] theorem zok99 : zeroOk prog 99 := zok_mk info99 rfl
@[simp] theorem cellsOf100 : prog.cellsOf 100 = 2 := by kernel_rfl
@[simp] theorem info100 : prog.info? 100 = some t100 := by kernel_rfl
@[simp] theorem zok100 : zeroOk prog 100 := zok_mk info100 rfl
@[simp] theorem cellsOf101 : prog.cellsOf 101 = 2 := by kernel_rfl
@[simp] theorem info101 : prog.info? 101 = some t101 := by kernel_rfl
@[simp] theorem zok101 : zeroOk prog 101 := zok_mk info101 rfl
@[simp] theorem cellsOf102 : prog.cellsOf 102 = 1 := by kernel_rfl
@[simp] theorem info102 : prog.info? 102 = some t102 := by kernel_rfl
@[simp] theorem zok102 : zeroOk prog 102 := zok_mk info102 rfl
@[simp] theorem cellsOf103 : prog.cellsOf 103 = 1 := by kernel_rfl
@[simp] theorem info103 : prog.info? 103 = some t103 := by kernel_rfl
@[simp] theorem zok103 : zeroOk prog 103 := zok_mk info103 rfl
@[simp] theorem cellsOf104 : prog.cellsOf 104 = 1 := by kernel_rfl
@[simp] theorem info104 : prog.info? 104 = some t104 := by kernel_rfl
@[simp] theorem zok104 : zeroOk prog 104 := zok_mk info104 rfl
@[simp] theorem cellsOf105 : prog.cellsOf 105 = 1 := by kernel_rfl
@[simp] theorem info105 : prog.info? 105 = some t105 := by kernel_rfl
@[simp] theorem zok105 : zeroOk prog 105 := zok_mk info105 rfl
@[simp] theorem cellsOf106 : prog.cellsOf 106 = 1 := by kernel_rfl
@[simp] theorem info106 : prog.info? 106 = some t106 := by kernel_rfl
@[simp] theorem zok106 : zeroOk prog 106 := zok_mk info106 rfl
@[simp] theorem cellsOf107 : prog.cellsOf 107 = 8 := by kernel_rfl
@[simp] theorem info107 : prog.info? 107 = some t107 := by kernel_rfl
@[simp] theorem zok107 : zeroOk prog 107 := zok_mk info107 rfl
@[simp] theorem cellsOf108 : prog.cellsOf 108 = 8 := by kernel_rfl
@[simp] theorem info108 : prog.info? 108 = some t108 := by kernel_rfl
@[simp] theorem zok108 : zeroOk prog 108 := zok_mk info108 rfl
@[simp] theorem cellsOf109 : prog.cellsOf 109 = 8 := by kernel_rfl
@[simp] theorem info109 : prog.info? 109 = some t109 := by kernel_rfl
@[simp] theorem zok109 : zeroOk prog 109 := zok_mk info109 rfl
@[simp] theorem cellsOf110 : prog.cellsOf 110 = 11 := by kernel_rfl
@[simp] theorem info110 : prog.info? 110 = some t110 := by kernel_rfl
@[simp] theorem zok110 : zeroOk prog 110 := zok_mk info110 rfl
@[simp] theorem cellsOf111 : prog.cellsOf 111 = 11 := by kernel_rfl
@[simp] theorem info111 : prog.info? 111 = some t111 := by kernel_rfl
@[simp] theorem zok111 : zeroOk prog 111 := zok_mk info111 rfl
@[simp] theorem cellsOf112 : prog.cellsOf 112 = 1 := by kernel_rfl
@[simp] theorem info112 : prog.info? 112 = some t112 := by kernel_rfl
@[simp] theorem zok112 : zeroOk prog 112 := zok_mk info112 rfl
@[simp] theorem cellsOf113 : prog.cellsOf 113 = 1 := by kernel_rfl
@[simp] theorem info113 : prog.info? 113 = some t113 := by kernel_rfl
@[simp] theorem zok113 : zeroOk prog 113 := zok_mk info113 rfl
@[simp] theorem cellsOf114 : prog.cellsOf 114 = 1 := by kernel_rfl
@[simp] theorem info114 : prog.info? 114 = some t114 := by kernel_rfl
@[simp] theorem zok114 : zeroOk prog 114 := zok_mk info114 rfl
@[simp] theorem cellsOf115 : prog.cellsOf 115 = 1 := by kernel_rfl
@[simp] theorem info115 : prog.info? 115 = some t115 := by kernel_rfl
@[simp] theorem zok115 : zeroOk prog 115 := zok_mk info115 rfl
@[simp] theorem cellsOf116 : prog.cellsOf 116 = 1 := by kernel_rfl
@[simp] theorem info116 : prog.info? 116 = some t116 := by kernel_rfl
@[simp] theorem cellsOf117 : prog.cellsOf 117 = 1 := by kernel_rfl
@[simp] theorem info117 : prog.info? 117 = some t117 := by kernel_rfl
@[simp] theorem zok117 : zeroOk prog 117 := zok_mk info117 rfl
@[simp] theorem cellsOf118 : prog.cellsOf 118 = 3 := by kernel_rfl
@[simp] theorem info118 : prog.info? 118 = some t118 := by kernel_rfl
@[simp] theorem zok118 : zeroOk prog 118 := zok_mk info118 rfl
@[simp] theorem cellsOf119 : prog.cellsOf 119 = 3 := by kernel_rfl
@[simp] theorem info119 : prog.info? 119 = some t119 := by kernel_rfl
@[simp] theorem zok119 : zeroOk prog 119 := zok_mk info119 rfl
@[simp] theorem cellsOf120 : prog.cellsOf 120 = 1 := by kernel_rfl
@[simp] theorem info120 : prog.info? 120 = some t120 := by kernel_rfl
@[simp] theorem zok120 : zeroOk prog 120 := zok_mk info120 rfl
@[simp] theorem cellsOf121 : prog.cellsOf 121 = 1 := by kernel_rfl
@[simp] theorem info121 : prog.info? 121 = some t121 := by kernel_rfl
@[simp] theorem cellsOf122 : prog.cellsOf 122 = 1 := by kernel_rfl
@[simp] theorem info122 : prog.info? 122 = some t122 := by kernel_rfl
@[simp] theorem zok122 : zeroOk prog 122 := zok_mk info122 rfl
@[simp] theorem cellsOf123 : prog.cellsOf 123 = 1 := by kernel_rfl
@[simp] theorem info123 : prog.info? 123 = some t123 := by kernel_rfl
@[simp] theorem zok123 : zeroOk prog 123 := zok_mk info123 rfl
@[simp] theorem cellsOf124 : prog.cellsOf 124 = 1 := by kernel_rfl
@[simp] theorem info124 : prog.info? 124 = some t124 := by kernel_rfl
@[simp] theorem zok124 : zeroOk prog 124 := zok_mk info124 rfl
@[simp] theorem cellsOf125 : prog.cellsOf 125 = 1 := by kernel_rfl
@[simp] theorem info125 : prog.info? 125 = some t125 := by kernel_rfl
@[simp] theorem zok125 : zeroOk prog 125 := zok_mk info125 rfl
@[simp] theorem cellsOf126 : prog.cellsOf 126 = 1 := by kernel_rfl
@[simp] theorem info126 : prog.info? 126 = some t126 := by kernel_rfl
@[simp] theorem zok126 : zeroOk prog 126 := zok_mk info126 rfl
@[simp] theorem cellsOf127 : prog.cellsOf 127 = 1 := by kernel_rfl
@[simp] theorem info127 : prog.info? 127 = some t127 := by kernel_rfl
@[simp] theorem zok127 : zeroOk prog 127 := zok_mk info127 rfl
@[simp] theorem cellsOf128 : prog.cellsOf 128 = 1 := by kernel_rfl
@[simp] theorem info128 : prog.info? 128 = some t128 := by kernel_rfl
@[simp] theorem zok128 : zeroOk prog 128 := zok_mk info128 rfl
@[simp] theorem cellsOf129 : prog.cellsOf 129 = 64 := by kernel_rfl
@[simp] theorem info129 : prog.info? 129 = some t129 := by kernel_rfl
@[simp] theorem zok129 : zeroOk prog 129 := zok_mk info129 rfl
@[simp] theorem cellsOf130 : prog.cellsOf 130 = 1 := by kernel_rfl
@[simp] theorem info130 : prog.info? 130 = some t130 := by kernel_rfl
@[simp] theorem zok130 : zeroOk prog 130 := zok_mk info130 rfl
@[simp] theorem cellsOf131 : prog.cellsOf 131 = 1 := by kernel_rfl
@[simp] theorem info131 : prog.info? 131 = some t131 := by kernel_rfl
@[simp] theorem zok131 : zeroOk prog 131 := zok_mk info131 rfl
@[simp] theorem cellsOf132 : prog.cellsOf 132 = 1 := by kernel_rfl
@[simp] theorem info132 : prog.info? 132 = some t132 := by kernel_rfl
@[simp] theorem zok132 : zeroOk prog 132 := zok_mk info132 rfl
@[simp] theorem cellsOf133 : prog.cellsOf 133 = 1 := by kernel_rfl
@[simp] theorem info133 : prog.info? 133 = some t133 := by kernel_rfl
@[simp] theorem zok133 : zeroOk prog 133 := zok_mk info133 rfl
@[simp] theorem cellsOf134 : prog.cellsOf 134 = 1 := by kernel_rfl
@[simp] theorem info134 : prog.info? 134 = some t134 := by kernel_rfl
@[simp] theorem zok134 : zeroOk prog 134 := zok_mk info134 rfl
@[simp] theorem cellsOf135 : prog.cellsOf 135 = 1 := by kernel_rfl
@[simp] theorem info135 : prog.info? 135 = some t135 := by kernel_rfl
@[simp] theorem cellsOf136 : prog.cellsOf 136 = 1 := by kernel_rfl
@[simp] theorem info136 : prog.info? 136 = some t136 := by kernel_rfl
@[simp] theorem zok136 : zeroOk prog 136 := zok_mk info136 rfl
@[simp] theorem cellsOf137 : prog.cellsOf 137 = 1 := by kernel_rfl
@[simp] theorem info137 : prog.info? 137 = some t137 := by kernel_rfl
@[simp] theorem zok137 : zeroOk prog 137 := zok_mk info137 rfl
@[simp] theorem cellsOf138 : prog.cellsOf 138 = 1 := by kernel_rfl
@[simp] theorem info138 : prog.info? 138 = some t138 := by kernel_rfl
@[simp] theorem zok138 : zeroOk prog 138 := zok_mk info138 rfl
@[simp] theorem cellsOf139 : prog.cellsOf 139 = 1 := by kernel_rfl
@[simp] theorem info139 : prog.info? 139 = some t139 := by kernel_rfl
@[simp] theorem zok139 : zeroOk prog 139 := zok_mk info139 rfl
@[simp] theorem cellsOf140 : prog.cellsOf 140 = 1 := by kernel_rfl
@[simp] theorem info140 : prog.info? 140 = some t140 := by kernel_rfl
@[simp] theorem zok140 : zeroOk prog 140 := zok_mk info140 rfl
@[simp] theorem cellsOf141 : prog.cellsOf 141 = 1 := by kernel_rfl
@[simp] theorem info141 : prog.info? 141 = some t141 := by kernel_rfl
@[simp] theorem zok141 : zeroOk prog 141 := zok_mk info141 rfl
@[simp] theorem cellsOf142 : prog.cellsOf 142 = 1 := by kernel_rfl
@[simp] theorem info142 : prog.info? 142 = some t142 := by kernel_rfl
@[simp] theorem zok142 : zeroOk prog 142 := zok_mk info142 rfl
@[simp] theorem cellsOf143 : prog.cellsOf 143 = 1 := by kernel_rfl
@[simp] theorem info143 : prog.info? 143 = some t143 := by kernel_rfl
@[simp] theorem zok143 : zeroOk prog 143 := zok_mk info143 rfl
@[simp] theorem cellsOf144 : prog.cellsOf 144 = 4 := by kernel_rfl
@[simp] theorem info144 : prog.info? 144 = some t144 := by kernel_rfl
@[simp] theorem zok144 : zeroOk prog 144 := zok_mk info144 rfl
@[simp] theorem cellsOf145 : prog.cellsOf 145 = 4 := by kernel_rfl
@[simp] theorem info145 : prog.info? 145 = some t145 := by kernel_rfl
@[simp] theorem zok145 : zeroOk prog 145 := zok_mk info145 rfl
@[simp] theorem cellsOf146 : prog.cellsOf 146 = 1 := by kernel_rfl
@[simp] theorem info146 : prog.info? 146 = some t146 := by kernel_rfl
@[simp] theorem cellsOf147 : prog.cellsOf 147 = 1 := by kernel_rfl
@[simp] theorem info147 : prog.info? 147 = some t147 := by kernel_rfl
@[simp] theorem zok147 : zeroOk prog 147 := zok_mk info147 rfl
@[simp] theorem cellsOf148 : prog.cellsOf 148 = 1 := by kernel_rfl
@[simp] theorem info148 : prog.info? 148 = some t148 := by kernel_rfl
@[simp] theorem zok148 : zeroOk prog 148 := zok_mk info148 rfl
@[simp] theorem cellsOf149 : prog.cellsOf 149 = 1 := by kernel_rfl
@[simp] theorem info149 : prog.info? 149 = some t149 := by kernel_rfl
@[simp] theorem zok149 : zeroOk prog 149 := zok_mk info149 rfl
@[simp] theorem cellsOf150 : prog.cellsOf 150 = 1 := by kernel_rfl
@[simp] theorem info150 : prog.info? 150 = some t150 := by kernel_rfl
@[simp] theorem zok150 : zeroOk prog 150 := zok_mk info150 rfl
@[simp] theorem cellsOf151 : prog.cellsOf 151 = 1 := by kernel_rfl
@[simp] theorem info151 : prog.info? 151 = some t151 := by kernel_rfl
@[simp] theorem cellsOf152 : prog.cellsOf 152 = 1 := by kernel_rfl
@[simp] theorem info152 : prog.info? 152 = some t152 := by kernel_rfl
@[simp] theorem zok152 : zeroOk prog 152 := zok_mk info152 rfl
@[simp] theorem cellsOf153 : prog.cellsOf 153 = 1 := by kernel_rfl
@[simp] theorem info153 : prog.info? 153 = some t153 := by kernel_rfl
@[simp] theorem zok153 : zeroOk prog 153 := zok_mk info153 rfl
@[simp] theorem cellsOf154 : prog.cellsOf 154 = 1 := by kernel_rfl
@[simp] theorem info154 : prog.info? 154 = some t154 := by kernel_rfl
@[simp] theorem cellsOf155 : prog.cellsOf 155 = 1 := by kernel_rfl
@[simp] theorem info155 : prog.info? 155 = some t155 := by kernel_rfl
@[simp] theorem zok155 : zeroOk prog 155 := zok_mk info155 rfl
@[simp] theorem cellsOf156 : prog.cellsOf 156 = 1 := by kernel_rfl
@[simp] theorem info156 : prog.info? 156 = some t156 := by kernel_rfl
@[simp] theorem zok156 : zeroOk prog 156 := zok_mk info156 rfl
@[simp] theorem cellsOf157 : prog.cellsOf 157 = 1 := by kernel_rfl
@[simp] theorem info157 : prog.info? 157 = some t157 := by kernel_rfl
@[simp] theorem zok157 : zeroOk prog 157 := zok_mk info157 rfl
@[simp] theorem cellsOf158 : prog.cellsOf 158 = 1 := by kernel_rfl
@[simp] theorem info158 : prog.info? 158 = some t158 := by kernel_rfl
@[simp] theorem zok158 : zeroOk prog 158 := zok_mk info158 rfl
@[simp] theorem cellsOf159 : prog.cellsOf 159 = 1 := by kernel_rfl
@[simp] theorem info159 : prog.info? 159 = some t159 := by kernel_rfl
@[simp] theorem zok159 : zeroOk prog 159 := zok_mk info159 rfl
@[simp] theorem cellsOf160 : prog.cellsOf 160 = 1 := by kernel_rfl
@[simp] theorem info160 : prog.info? 160 = some t160 := by kernel_rfl
@[simp] theorem zok160 : zeroOk prog 160 := zok_mk info160 rfl
@[simp] theorem cellsOf161 : prog.cellsOf 161 = 1 := by kernel_rfl
@[simp] theorem info161 : prog.info? 161 = some t161 := by kernel_rfl
@[simp] theorem zok161 : zeroOk prog 161 := zok_mk info161 rfl
@[simp] theorem cellsOf162 : prog.cellsOf 162 = 1 := by kernel_rfl
@[simp] theorem info162 : prog.info? 162 = some t162 := by kernel_rfl
@[simp] theorem zok162 : zeroOk prog 162 := zok_mk info162 rfl
@[simp] theorem cellsOf163 : prog.cellsOf 163 = 1 := by kernel_rfl
@[simp] theorem info163 : prog.info? 163 = some t163 := by kernel_rfl
@[simp] theorem zok163 : zeroOk prog 163 := zok_mk info163 rfl
@[simp] theorem cellsOf164 : prog.cellsOf 164 = 1 := by kernel_rfl
@[simp] theorem info164 : prog.info? 164 = some t164 := by kernel_rfl
@[simp] theorem zok164 : zeroOk prog 164 := zok_mk info164 rfl
@[simp] theorem cellsOf165 : prog.cellsOf 165 = 1 := by kernel_rfl
@[simp] theorem info165 : prog.info? 165 = some t165 := by kernel_rfl
@[simp] theorem cellsOf166 : prog.cellsOf 166 = 1 := by kernel_rfl
@[simp] theorem info166 : prog.info? 166 = some t166 := by kernel_rfl
@[simp] theorem zok166 : zeroOk prog 166 := zok_mk info166 rfl
@[simp] theorem cellsOf167 : prog.cellsOf 167 = 1 := by kernel_rfl
@[simp] theorem info167 : prog.info? 167 = some t167 := by kernel_rfl
@[simp] theorem cellsOf168 : prog.cellsOf 168 = 1 := by kernel_rfl
@[simp] theorem info168 : prog.info? 168 = some t168 := by kernel_rfl
@[simp] theorem zok168 : zeroOk prog 168 := zok_mk info168 rfl
@[simp] theorem cellsOf169 : prog.cellsOf 169 = 1 := by kernel_rfl
@[simp] theorem info169 : prog.info? 169 = some t169 := by kernel_rfl
@[simp] theorem zok169 : zeroOk prog 169 := zok_mk info169 rfl
@[simp] theorem cellsOf170 : prog.cellsOf 170 = 1 := by kernel_rfl
@[simp] theorem info170 : prog.info? 170 = some t170 := by kernel_rfl
@[simp] theorem zok170 : zeroOk prog 170 := zok_mk info170 rfl
@[simp] theorem cellsOf171 : prog.cellsOf 171 = 1 := by kernel_rfl
@[simp] theorem info171 : prog.info? 171 = some t171 := by kernel_rfl
@[simp] theorem zok171 : zeroOk prog 171 := zok_mk info171 rfl
@[simp] theorem cellsOf172 : prog.cellsOf 172 = 1 := by kernel_rfl
@[simp] theorem info172 : prog.info? 172 = some t172 := by kernel_rfl
@[simp] theorem cellsOf173 : prog.cellsOf 173 = 1 := by kernel_rfl
@[simp] theorem info173 : prog.info? 173 = some t173 := by kernel_rfl
@[simp] theorem zok173 : zeroOk prog 173 := zok_mk info173 rfl
@[simp] theorem cellsOf174 : prog.cellsOf 174 = 1 := by kernel_rfl
@[simp] theorem info174 : prog.info? 174 = some t174 := by kernel_rfl
@[simp] theorem zok174 : zeroOk prog 174 := zok_mk info174 rfl
@[simp] theorem cellsOf175 : prog.cellsOf 175 = 1 := by kernel_rfl
@[simp] theorem info175 : prog.info? 175 = some t175 := by kernel_rfl
@[simp] theorem zok175 : zeroOk prog 175 := zok_mk info175 rfl
@[simp] theorem cellsOf176 : prog.cellsOf 176 = 1 := by kernel_rfl
@[simp] theorem info176 : prog.info? 176 = some t176 := by kernel_rfl
@[simp] theorem zok176 : zeroOk prog 176 := zok_mk info176 rfl
@[simp] theorem cellsOf177 : prog.cellsOf 177 = 1 := by kernel_rfl
@[simp] theorem info177 : prog.info? 177 = some t177 := by kernel_rfl
@[simp] theorem zok177 : zeroOk prog 177 := zok_mk info177 rfl
@[simp] theorem cellsOf178 : prog.cellsOf 178 = 1 := by kernel_rfl
@[simp] theorem info178 : prog.info? 178 = some t178 := by kernel_rfl
@[simp] theorem cellsOf179 : prog.cellsOf 179 = 1 := by kernel_rfl
@[simp] theorem info179 : prog.info? 179 = some t179 := by kernel_rfl
@[simp] theorem zok179 : zeroOk prog 179 := zok_mk info179 rfl
@[simp] theorem cellsOf180 : prog.cellsOf 180 = 1 := by kernel_rfl
@[simp] theorem info180 : prog.info? 180 = some t180 := by kernel_rfl
@[simp] theorem zok180 : zeroOk prog 180 := zok_mk info180 rfl
@[simp] theorem cellsOf181 : prog.cellsOf 181 = 1 := by kernel_rfl
@[simp] theorem info181 : prog.info? 181 = some t181 := by kernel_rfl
@[simp] theorem cellsOf182 : prog.cellsOf 182 = 1 := by kernel_rfl
@[simp] theorem info182 : prog.info? 182 = some t182 := by kernel_rfl
@[simp] theorem zok182 : zeroOk prog 182 := zok_mk info182 rfl
@[simp] theorem cellsOf183 : prog.cellsOf 183 = 1 := by kernel_rfl
@[simp] theorem info183 : prog.info? 183 = some t183 := by kernel_rfl
@[simp] theorem zok183 : zeroOk prog 183 := zok_mk info183 rfl
@[simp] theorem cellsOf184 : prog.cellsOf 184 = 1 := by kernel_rfl
@[simp] theorem info184 : prog.info? 184 = some t184 := by kernel_rfl
@[simp] theorem zok184 : zeroOk prog 184 := zok_mk info184 rfl
@[simp] theorem cellsOf185 : prog.cellsOf 185 = 1 := by kernel_rfl
@[simp] theorem info185 : prog.info? 185 = some t185 := by kernel_rfl
@[simp] theorem zok185 : zeroOk prog 185 := zok_mk info185 rfl
@[simp] theorem cellsOf186 : prog.cellsOf 186 = 1 := by kernel_rfl
@[simp] theorem info186 : prog.info? 186 = some t186 := by kernel_rfl
@[simp] theorem zok186 : zeroOk prog 186 := zok_mk info186 rfl
@[simp] theorem cellsOf187 : prog.cellsOf 187 = 1 := by kernel_rfl
@[simp] theorem info187 : prog.info? 187 = some t187 := by kernel_rfl
@[simp] theorem zok187 : zeroOk prog 187 := zok_mk info187 rfl
@[simp] theorem cellsOf188 : prog.cellsOf 188 = 1 := by kernel_rfl
@[simp] theorem info188 : prog.info? 188 = some t188 := by kernel_rfl
@[simp] theorem zok188 : zeroOk prog 188 := zok_mk info188 rfl
@[simp] theorem cellsOf189 : prog.cellsOf 189 = 1 := by kernel_rfl
@[simp] theorem info189 : prog.info? 189 = some t189 := by kernel_rfl
@[simp] theorem zok189 : zeroOk prog 189 := zok_mk info189 rfl
@[simp] theorem cellsOf190 : prog.cellsOf 190 = 1 := by kernel_rfl
@[simp] theorem info190 : prog.info? 190 = some t190 := by kernel_rfl
@[simp] theorem zok190 : zeroOk prog 190 := zok_mk info190 rfl
@[simp] theorem cellsOf191 : prog.cellsOf 191 = 4 := by kernel_rfl
@[simp] theorem info191 : prog.info? 191 = some t191 := by kernel_rfl
@[simp] theorem zok191 : zeroOk prog 191 := zok_mk info191 rfl
@[simp] theorem cellsOf192 : prog.cellsOf 192 = 4 := by kernel_rfl
@[simp] theorem info192 : prog.info? 192 = some t192 := by kernel_rfl
@[simp] theorem zok192 : zeroOk prog 192 := zok_mk info192 rfl
@[simp] theorem cellsOf193 : prog.cellsOf 193 = 0 := by kernel_rfl
@[simp] theorem info193 : prog.info? 193 = some t193 := by kernel_rfl
@[simp] theorem zok193 : zeroOk prog 193 := zok_mk info193 rfl
@[simp] theorem cellsOf194 : prog.cellsOf 194 = 0 := by kernel_rfl
@[simp] theorem info194 : prog.info? 194 = some t194 := by kernel_rfl
@[simp] theorem zok194 : zeroOk prog 194 := zok_mk info194 rfl
@[simp] theorem cellsOf195 : prog.cellsOf 195 = 0 := by kernel_rfl
@[simp] theorem info195 : prog.info? 195 = some t195 := by kernel_rfl
@[simp] theorem zok195 : zeroOk prog 195 := zok_mk info195 rfl
@[simp] theorem cellsOf196 : prog.cellsOf 196 = 1 := by kernel_rfl
@[simp] theorem info196 : prog.info? 196 = some t196 := by kernel_rfl
@[simp] theorem zok196 : zeroOk prog 196 := zok_mk info196 rfl
@[simp] theorem cellsOf197 : prog.cellsOf 197 = 1 := by kernel_rfl
@[simp] theorem info197 : prog.info? 197 = some t197 := by kernel_rfl
@[simp] theorem zok197 : zeroOk prog 197 := zok_mk info197 rfl
@[simp] theorem cellsOf198 : prog.cellsOf 198 = 1 := by kernel_rfl
@[simp] theorem info198 : prog.info? 198 = some t198 := by kernel_rfl
@[simp] theorem zok198 : zeroOk prog 198 := zok_mk info198 rfl
@[simp] theorem cellsOf199 : prog.cellsOf 199 = 1 := by kernel_rfl
@[simp] theorem info199 : prog.info? 199 = some t199 := by kernel_rfl
@[simp] theorem zok199 : zeroOk prog 199 := zok_mk info199 rfl
@[simp] theorem cellsOf200 : prog.cellsOf 200 = 1 := by kernel_rfl
@[simp] theorem info200 : prog.info? 200 = some t200 := by kernel_rfl
@[simp] theorem zok200 : zeroOk prog 200 := zok_mk info200 rfl
@[simp] theorem cellsOf201 : prog.cellsOf 201 = 1 := by kernel_rfl
@[simp] theorem info201 : prog.info? 201 = some t201 := by kernel_rfl
@[simp] theorem zok201 : zeroOk prog 201 := zok_mk info201 rfl
@[simp] theorem cellsOf202 : prog.cellsOf 202 = 11 := by kernel_rfl
@[simp] theorem info202 : prog.info? 202 = some t202 := by kernel_rfl
@[simp] theorem zok202 : zeroOk prog 202 := zok_mk info202 rfl
@[simp] theorem cellsOf203 : prog.cellsOf 203 = 11 := by kernel_rfl
@[simp] theorem info203 : prog.info? 203 = some t203 := by kernel_rfl
@[simp] theorem zok203 : zeroOk prog 203 := zok_mk info203 rfl
@[simp] theorem cellsOf204 : prog.cellsOf 204 = 1 := by kernel_rfl
@[simp] theorem info204 : prog.info? 204 = some t204 := by kernel_rfl
@[simp] theorem zok204 : zeroOk prog 204 := zok_mk info204 rfl
end Go.Proofs.YtohfhephkjihfaaGreat
