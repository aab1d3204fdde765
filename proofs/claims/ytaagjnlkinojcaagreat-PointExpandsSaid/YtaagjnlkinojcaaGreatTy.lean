/-
  Facts on the types of the translation: cells, info. No condition.
-/
import Derived.Test.YtaagjnlkinojcaaGreatProg
import Derived.Test.YtaagjnlkinojcaaGreatSxS
namespace Go.Proofs.YtaagjnlkinojcaaGreat
open Go.Sx Tryz
set_option maxRecDepth 100000
@[simp] theorem ztI : prog.cellsOf 0 = 1 := by kernel_rfl
@[simp] theorem zy0 : prog.info? 0 = some t0 := by kernel_rfl
@[simp] theorem ztJ : prog.cellsOf 1 = 1 := by kernel_rfl
@[simp] theorem znP : prog.info? 1 = some t1 := by kernel_rfl
@[simp] theorem zzj : z01 prog 1 := z02 znP rfl
@[simp] theorem ztK : prog.cellsOf 2 = 1 := by kernel_rfl
@[simp] theorem znQ : prog.info? 2 = some t2 := by kernel_rfl
@[simp] theorem zzk : z01 prog 2 := z02 znQ rfl
@[simp] theorem z2o : prog.cellsOf 3 = 1 := by kernel_rfl
@[simp] theorem z4I : prog.info? 3 = some t3 := by kernel_rfl
@[simp] theorem zm3 : z01 prog 3 := z02 z4I rfl
@[simp] theorem zgk : prog.cellsOf 4 = 1 := by kernel_rfl
@[simp] theorem znR : prog.info? 4 = some t4 := by kernel_rfl
@[simp] theorem zzl : z01 prog 4 := z02 znR rfl
@[simp] theorem z6j : prog.cellsOf 5 = 1 := by kernel_rfl
@[simp] theorem znS : prog.info? 5 = some t5 := by kernel_rfl
@[simp] theorem z2p : z01 prog 5 := z02 znS rfl
@[simp] theorem ztL : prog.cellsOf 6 = 1 := by kernel_rfl
@[simp] theorem znT : prog.info? 6 = some t6 := by kernel_rfl
@[simp] theorem zzm : z01 prog 6 := z02 znT rfl
@[simp] theorem ztM : prog.cellsOf 7 = 4 := by kernel_rfl
@[simp] theorem znU : prog.info? 7 = some t7 := by kernel_rfl
@[simp] theorem zzn : z01 prog 7 := z02 znU rfl
@[simp] theorem ztN : prog.cellsOf 8 = 4 := by kernel_rfl
@[simp] theorem znV : prog.info? 8 = some t8 := by kernel_rfl
@[simp] theorem zzo : z01 prog 8 := z02 znV rfl
@[simp] theorem ztO : prog.cellsOf 9 = 1 := by kernel_rfl
@[simp] theorem znW : prog.info? 9 = some t9 := by kernel_rfl
@[simp] theorem zzp : z01 prog 9 := z02 znW rfl
@[simp] theorem zrU : prog.cellsOf 10 = 1 := by kernel_rfl
@[simp] theorem zm4 : prog.info? 10 = some t10 := by kernel_rfl
@[simp] theorem zy1 : z01 prog 10 := z02 zm4 rfl
@[simp] theorem zrV : prog.cellsOf 11 = 1 := by kernel_rfl
@[simp] theorem zm5 : prog.info? 11 = some t11 := by kernel_rfl
@[simp] theorem zy2 : z01 prog 11 := z02 zm5 rfl
@[simp] theorem zrW : prog.cellsOf 12 = 1 := by kernel_rfl
@[simp] theorem zm6 : prog.info? 12 = some t12 := by kernel_rfl
@[simp] theorem zy3 : z01 prog 12 := z02 zm6 rfl
@[simp] theorem zrX : prog.cellsOf 13 = 2 := by kernel_rfl
@[simp] theorem zm7 : prog.info? 13 = some t13 := by kernel_rfl
@[simp] theorem zy4 : z01 prog 13 := z02 zm7 rfl
@[simp] theorem zrY : prog.cellsOf 14 = 2 := by kernel_rfl
@[simp] theorem zm8 : prog.info? 14 = some t14 := by kernel_rfl
@[simp] theorem zy5 : z01 prog 14 := z02 zm8 rfl
@[simp] theorem zrZ : prog.cellsOf 15 = 1 := by kernel_rfl
@[simp] theorem zm9 : prog.info? 15 = some t15 := by kernel_rfl
@[simp] theorem zy6 : z01 prog 15 := z02 zm9 rfl
@[simp] theorem zs0 : prog.cellsOf 16 = 1 := by kernel_rfl
@[simp] theorem zma : prog.info? 16 = some t16 := by kernel_rfl
@[simp] theorem zy7 : z01 prog 16 := z02 zma rfl
@[simp] theorem zs1 : prog.cellsOf 17 = 1 := by kernel_rfl
@[simp] theorem zmb : prog.info? 17 = some t17 := by kernel_rfl
@[simp] theorem zy8 : z01 prog 17 := z02 zmb rfl
@[simp] theorem zs2 : prog.cellsOf 18 = 1 := by kernel_rfl
@[simp] theorem zmc : prog.info? 18 = some t18 := by kernel_rfl
@[simp] theorem zy9 : z01 prog 18 := z02 zmc rfl
@[simp] theorem zs3 : prog.cellsOf 19 = 1 := by kernel_rfl
@[simp] theorem zmd : prog.info? 19 = some t19 := by kernel_rfl
@[simp] theorem zya : z01 prog 19 := z02 zmd rfl
@[simp] theorem zs4 : prog.cellsOf 20 = 1 := by kernel_rfl
@[simp] theorem zme : prog.info? 20 = some t20 := by kernel_rfl
@[simp] theorem zyb : z01 prog 20 := z02 zme rfl
@[simp] theorem zs5 : prog.cellsOf 21 = 1 := by kernel_rfl
@[simp] theorem zmf : prog.info? 21 = some t21 := by kernel_rfl
@[simp] theorem zyc : z01 prog 21 := z02 zmf rfl
@[simp] theorem zs6 : prog.cellsOf 22 = 1 := by kernel_rfl
@[simp] theorem zmg : prog.info? 22 = some t22 := by kernel_rfl
@[simp] theorem zyd : z01 prog 22 := z02 zmg rfl
@[simp] theorem zs7 : prog.cellsOf 23 = 1 := by kernel_rfl
@[simp] theorem zmh : prog.info? 23 = some t23 := by kernel_rfl
@[simp] theorem zye : z01 prog 23 := z02 zmh rfl
@[simp] theorem zs8 : prog.cellsOf 24 = 1 := by kernel_rfl
@[simp] theorem zmi : prog.info? 24 = some t24 := by kernel_rfl
@[simp] theorem zyf : z01 prog 24 := z02 zmi rfl
@[simp] theorem zs9 : prog.cellsOf 25 = 1 := by kernel_rfl
@[simp] theorem zmj : prog.info? 25 = some t25 := by kernel_rfl
@[simp] theorem zyg : z01 prog 25 := z02 zmj rfl
@[simp] theorem zsa : prog.cellsOf 26 = 1 := by kernel_rfl
@[simp] theorem zmk : prog.info? 26 = some t26 := by kernel_rfl
@[simp] theorem zyh : z01 prog 26 := z02 zmk rfl
@[simp] theorem zsb : prog.cellsOf 27 = 1 := by kernel_rfl
@[simp] theorem zml : prog.info? 27 = some t27 := by kernel_rfl
@[simp] theorem zyi : z01 prog 27 := z02 zml rfl
@[simp] theorem z2A : prog.cellsOf 28 = 1 := by kernel_rfl
@[simp] theorem z3X : prog.info? 28 = some t28 := by kernel_rfl
@[simp] theorem z9N : z01 prog 28 := z02 z3X rfl
@[simp] theorem zsc : prog.cellsOf 29 = 1 := by kernel_rfl
@[simp] theorem zmm : prog.info? 29 = some t29 := by kernel_rfl
@[simp] theorem zyj : z01 prog 29 := z02 zmm rfl
@[simp] theorem zsd : prog.cellsOf 30 = 1 := by kernel_rfl
@[simp] theorem zmn : prog.info? 30 = some t30 := by kernel_rfl
@[simp] theorem zyk : z01 prog 30 := z02 zmn rfl
@[simp] theorem zse : prog.cellsOf 31 = 1 := by kernel_rfl
@[simp] theorem zmo : prog.info? 31 = some t31 := by kernel_rfl
@[simp] theorem zyl : z01 prog 31 := z02 zmo rfl
@[simp] theorem zsf : prog.cellsOf 32 = 1 := by kernel_rfl
@[simp] theorem zmp : prog.info? 32 = some t32 := by kernel_rfl
@[simp] theorem zym : z01 prog 32 := z02 zmp rfl
@[simp] theorem zsg : prog.cellsOf 33 = 3 := by kernel_rfl
@[simp] theorem zmq : prog.info? 33 = some t33 := by kernel_rfl
@[simp] theorem zyn : z01 prog 33 := z02 zmq rfl
@[simp] theorem zsh : prog.cellsOf 34 = 3 := by kernel_rfl
@[simp] theorem zmr : prog.info? 34 = some t34 := by kernel_rfl
@[simp] theorem zyo : z01 prog 34 := z02 zmr rfl
@[simp] theorem zsi : prog.cellsOf 35 = 1 := by kernel_rfl
@[simp] theorem zms : prog.info? 35 = some t35 := by kernel_rfl
@[simp] theorem zyp : z01 prog 35 := z02 zms rfl
@[simp] theorem zsj : prog.cellsOf 36 = 1 := by kernel_rfl
@[simp] theorem zus : prog.info? 36 = some t36 := by kernel_rfl
@[simp] theorem zsk : prog.cellsOf 37 = 1 := by kernel_rfl
@[simp] theorem zmt : prog.info? 37 = some t37 := by kernel_rfl
@[simp] theorem zyq : z01 prog 37 := z02 zmt rfl
@[simp] theorem zsl : prog.cellsOf 38 = 1 := by kernel_rfl
@[simp] theorem zmu : prog.info? 38 = some t38 := by kernel_rfl
@[simp] theorem zyr : z01 prog 38 := z02 zmu rfl
@[simp] theorem zsm : prog.cellsOf 39 = 1 := by kernel_rfl
@[simp] theorem zmv : prog.info? 39 = some t39 := by kernel_rfl
@[simp] theorem zys : z01 prog 39 := z02 zmv rfl
@[simp] theorem zsn : prog.cellsOf 40 = 3 := by kernel_rfl
@[simp] theorem zmw : prog.info? 40 = some t40 := by kernel_rfl
@[simp] theorem zyt : z01 prog 40 := z02 zmw rfl
@[simp] theorem zso : prog.cellsOf 41 = 3 := by kernel_rfl
@[simp] theorem zmx : prog.info? 41 = some t41 := by kernel_rfl
@[simp] theorem zyu : z01 prog 41 := z02 zmx rfl
@[simp] theorem zsp : prog.cellsOf 42 = 5 := by kernel_rfl
@[simp] theorem zmy : prog.info? 42 = some t42 := by kernel_rfl
@[simp] theorem zyv : z01 prog 42 := z02 zmy rfl
@[simp] theorem zsq : prog.cellsOf 43 = 5 := by kernel_rfl
@[simp] theorem zmz : prog.info? 43 = some t43 := by kernel_rfl
@[simp] theorem zyw : z01 prog 43 := z02 zmz rfl
@[simp] theorem zsr : prog.cellsOf 44 = 1 := by kernel_rfl
@[simp] theorem zut : prog.info? 44 = some t44 := by kernel_rfl
@[simp] theorem zss : prog.cellsOf 45 = 1 := by kernel_rfl
@[simp] theorem zmA : prog.info? 45 = some t45 := by kernel_rfl
@[simp] theorem zyx : z01 prog 45 := z02 zmA rfl
@[simp] theorem zst : prog.cellsOf 46 = 1 := by kernel_rfl
@[simp] theorem zmB : prog.info? 46 = some t46 := by kernel_rfl
@[simp] theorem zyy : z01 prog 46 := z02 zmB rfl
@[simp] theorem zsu : prog.cellsOf 47 = 1 := by kernel_rfl
@[simp] theorem zuu : prog.info? 47 = some t47 := by kernel_rfl
@[simp] theorem zsv : prog.cellsOf 48 = 1 := by kernel_rfl
@[simp] theorem zmC : prog.info? 48 = some t48 := by kernel_rfl
@[simp] theorem zyz : z01 prog 48 := z02 zmC rfl
@[simp] theorem zsw : prog.cellsOf 49 = 1 := by kernel_rfl
@[simp] theorem zmD : prog.info? 49 = some t49 := by kernel_rfl
@[simp] theorem zyA : z01 prog 49 := z02 zmD rfl
@[simp] theorem zsx : prog.cellsOf 50 = 1 := by kernel_rfl
@[simp] theorem zuv : prog.info? 50 = some t50 := by kernel_rfl
@[simp] theorem zsy : prog.cellsOf 51 = 1 := by kernel_rfl
@[simp] theorem zmE : prog.info? 51 = some t51 := by kernel_rfl
@[simp] theorem zyB : z01 prog 51 := z02 zmE rfl
@[simp] theorem zsz : prog.cellsOf 52 = 1 := by kernel_rfl
@[simp] theorem zmF : prog.info? 52 = some t52 := by kernel_rfl
@[simp] theorem zyC : z01 prog 52 := z02 zmF rfl
@[simp] theorem zsA : prog.cellsOf 53 = 1 := by kernel_rfl
@[simp] theorem zmG : prog.info? 53 = some t53 := by kernel_rfl
@[simp] theorem zyD : z01 prog 53 := z02 zmG rfl
@[simp] theorem zsB : prog.cellsOf 54 = 1 := by kernel_rfl
@[simp] theorem zmH : prog.info? 54 = some t54 := by kernel_rfl
@[simp] theorem zyE : z01 prog 54 := z02 zmH rfl
@[simp] theorem zsC : prog.cellsOf 55 = 1 := by kernel_rfl
@[simp] theorem zmI : prog.info? 55 = some t55 := by kernel_rfl
@[simp] theorem zyF : z01 prog 55 := z02 zmI rfl
@[simp] theorem zsD : prog.cellsOf 56 = 1 := by kernel_rfl
@[simp] theorem zmJ : prog.info? 56 = some t56 := by kernel_rfl
@[simp] theorem zyG : z01 prog 56 := z02 zmJ rfl
@[simp] theorem zsE : prog.cellsOf 57 = 1 := by kernel_rfl
@[simp] theorem zmK : prog.info? 57 = some t57 := by kernel_rfl
@[simp] theorem zyH : z01 prog 57 := z02 zmK rfl
@[simp] theorem zsF : prog.cellsOf 58 = 1 := by kernel_rfl
@[simp] theorem zmL : prog.info? 58 = some t58 := by kernel_rfl
@[simp] theorem zyI : z01 prog 58 := z02 zmL rfl
@[simp] theorem zsG : prog.cellsOf 59 = 1 := by kernel_rfl
@[simp] theorem zmM : prog.info? 59 = some t59 := by kernel_rfl
@[simp] theorem zyJ : z01 prog 59 := z02 zmM rfl
@[simp] theorem zsH : prog.cellsOf 60 = 1 := by kernel_rfl
@[simp] theorem zmN : prog.info? 60 = some t60 := by kernel_rfl
@[simp] theorem zyK : z01 prog 60 := z02 zmN rfl
@[simp] theorem zsI : prog.cellsOf 61 = 1 := by kernel_rfl
@[simp] theorem zmO : prog.info? 61 = some t61 := by kernel_rfl
@[simp] theorem zyL : z01 prog 61 := z02 zmO rfl
@[simp] theorem zsJ : prog.cellsOf 62 = 1 := by kernel_rfl
@[simp] theorem zuw : prog.info? 62 = some t62 := by kernel_rfl
@[simp] theorem zsK : prog.cellsOf 63 = 1 := by kernel_rfl
@[simp] theorem zmP : prog.info? 63 = some t63 := by kernel_rfl
@[simp] theorem zyM : z01 prog 63 := z02 zmP rfl
@[simp] theorem zsL : prog.cellsOf 64 = 1 := by kernel_rfl
@[simp] theorem zmQ : prog.info? 64 = some t64 := by kernel_rfl
@[simp] theorem zyN : z01 prog 64 := z02 zmQ rfl
@[simp] theorem zsM : prog.cellsOf 65 = 1 := by kernel_rfl
@[simp] theorem zmR : prog.info? 65 = some t65 := by kernel_rfl
@[simp] theorem zyO : z01 prog 65 := z02 zmR rfl
@[simp] theorem zsN : prog.cellsOf 66 = 2 := by kernel_rfl
@[simp] theorem zmS : prog.info? 66 = some t66 := by kernel_rfl
@[simp] theorem zyP : z01 prog 66 := z02 zmS rfl
@[simp] theorem zsO : prog.cellsOf 67 = 2 := by kernel_rfl
@[simp] theorem zmT : prog.info? 67 = some t67 := by kernel_rfl
@[simp] theorem zyQ : z01 prog 67 := z02 zmT rfl
@[simp] theorem zsP : prog.cellsOf 68 = 1 := by kernel_rfl
@[simp] theorem zux : prog.info? 68 = some t68 := by kernel_rfl
@[simp] theorem zsQ : prog.cellsOf 69 = 1 := by kernel_rfl
@[simp] theorem zmU : prog.info? 69 = some t69 := by kernel_rfl
@[simp] theorem zyR : z01 prog 69 := z02 zmU rfl
@[simp] theorem zsR : prog.cellsOf 70 = 1 := by kernel_rfl
@[simp] theorem zmV : prog.info? 70 = some t70 := by kernel_rfl
@[simp] theorem zyS : z01 prog 70 := z02 zmV rfl
@[simp] theorem zsS : prog.cellsOf 71 = 1 := by kernel_rfl
@[simp] theorem zmW : prog.info? 71 = some t71 := by kernel_rfl
@[simp] theorem zyT : z01 prog 71 := z02 zmW rfl
@[simp] theorem zsT : prog.cellsOf 72 = 1 := by kernel_rfl
@[simp] theorem zmX : prog.info? 72 = some t72 := by kernel_rfl
@[simp] theorem zyU : z01 prog 72 := z02 zmX rfl
@[simp] theorem zsU : prog.cellsOf 73 = 1 := by kernel_rfl
@[simp] theorem zmY : prog.info? 73 = some t73 := by kernel_rfl
@[simp] theorem zyV : z01 prog 73 := z02 zmY rfl
@[simp] theorem zsV : prog.cellsOf 74 = 8 := by kernel_rfl
@[simp] theorem zmZ : prog.info? 74 = some t74 := by kernel_rfl
@[simp] theorem zyW : z01 prog 74 := z02 zmZ rfl
@[simp] theorem zsW : prog.cellsOf 75 = 8 := by kernel_rfl
@[simp] theorem zn0 : prog.info? 75 = some t75 := by kernel_rfl
@[simp] theorem zyX : z01 prog 75 := z02 zn0 rfl
@[simp] theorem zsX : prog.cellsOf 76 = 6 := by kernel_rfl
@[simp] theorem zn1 : prog.info? 76 = some t76 := by kernel_rfl
@[simp] theorem zyY : z01 prog 76 := z02 zn1 rfl
@[simp] theorem zsY : prog.cellsOf 77 = 6 := by kernel_rfl
@[simp] theorem zn2 : prog.info? 77 = some t77 := by kernel_rfl
@[simp] theorem zyZ : z01 prog 77 := z02 zn2 rfl
@[simp] theorem zsZ : prog.cellsOf 78 = 1 := by kernel_rfl
@[simp] theorem zn3 : prog.info? 78 = some t78 := by kernel_rfl
@[simp] theorem zz0 : z01 prog 78 := z02 zn3 rfl
@[simp] theorem zt0 : prog.cellsOf 79 = 1 := by kernel_rfl
@[simp] theorem zn4 : prog.info? 79 = some t79 := by kernel_rfl
@[simp] theorem zz1 : z01 prog 79 := z02 zn4 rfl
@[simp] theorem zt1 : prog.cellsOf 80 = 1 := by kernel_rfl
@[simp] theorem zuy : prog.info? 80 = some t80 := by kernel_rfl
@[simp] theorem zt2 : prog.cellsOf 81 = 1 := by kernel_rfl
@[simp] theorem zn5 : prog.info? 81 = some t81 := by kernel_rfl
@[simp] theorem zz2 : z01 prog 81 := z02 zn5 rfl
@[simp] theorem zt3 : prog.cellsOf 82 = 1 := by kernel_rfl
@[simp] theorem zn6 : prog.info? 82 = some t82 := by kernel_rfl
@[simp] theorem zz3 : z01 prog 82 := z02 zn6 rfl
@[simp] theorem zt4 : prog.cellsOf 83 = 1 := by kernel_rfl
@[simp] theorem zn7 : prog.info? 83 = some t83 := by kernel_rfl
@[simp] theorem zz4 : z01 prog 83 := z02 zn7 rfl
@[simp] theorem zt5 : prog.cellsOf 84 = 1 := by kernel_rfl
@[simp] theorem zuz : prog.info? 84 = some t84 := by kernel_rfl
@[simp] theorem zt6 : prog.cellsOf 85 = 1 := by kernel_rfl
@[simp] theorem zn8 : prog.info? 85 = some t85 := by kernel_rfl
@[simp] theorem zz5 : z01 prog 85 := z02 zn8 rfl
@[simp] theorem zt7 : prog.cellsOf 86 = 1 := by kernel_rfl
@[simp] theorem zn9 : prog.info? 86 = some t86 := by kernel_rfl
@[simp] theorem zz6 : z01 prog 86 := z02 zn9 rfl
@[simp] theorem zt8 : prog.cellsOf 87 = 1 := by kernel_rfl
@[simp] theorem zna : prog.info? 87 = some t87 := by kernel_rfl
@[simp] theorem zz7 : z01 prog 87 := z02 zna rfl
@[simp] theorem zt9 : prog.cellsOf 88 = 1 := by kernel_rfl
@[simp] theorem znb : prog.info? 88 = some t88 := by kernel_rfl
@[simp] theorem zz8 : z01 prog 88 := z02 znb rfl
@[simp] theorem zta : prog.cellsOf 89 = 1 := by kernel_rfl
@[simp] theorem zuA : prog.info? 89 = some t89 := by kernel_rfl
@[simp] theorem ztb : prog.cellsOf 90 = 1 := by kernel_rfl
@[simp] theorem znc : prog.info? 90 = some t90 := by kernel_rfl
@[simp] theorem zz9 : z01 prog 90 := z02 znc rfl
@[simp] theorem ztc : prog.cellsOf 91 = 1 := by kernel_rfl
@[simp] theorem znd : prog.info? 91 = some t91 := by kernel_rfl
@[simp] theorem zza : z01 prog 91 := z02 znd rfl
@[simp] theorem ztd : prog.cellsOf 92 = 1 := by kernel_rfl
@[simp] theorem zne : prog.info? 92 = some t92 := by kernel_rfl
@[simp] theorem zzb : z01 prog 92 := z02 zne rfl
@[simp] theorem zte : prog.cellsOf 93 = 1 := by kernel_rfl
@[simp] theorem znf : prog.info? 93 = some t93 := by kernel_rfl
@[simp] theorem zzc : z01 prog 93 := z02 znf rfl
@[simp] theorem ztf : prog.cellsOf 94 = 1 := by kernel_rfl
@[simp] theorem zng : prog.info? 94 = some t94 := by kernel_rfl
@[simp] theorem zzd : z01 prog 94 := z02 zng rfl
@[simp] theorem ztg : prog.cellsOf 95 = 1 := by kernel_rfl
@[simp] theorem znh : prog.info? 95 = some t95 := by kernel_rfl
@[simp] theorem zze : z01 prog 95 := z02 znh rfl
@[simp] theorem zth : prog.cellsOf 96 = 1 := by kernel_rfl
@[simp] theorem zni : prog.info? 96 = some t96 := by kernel_rfl
@[simp] theorem zzf : z01 prog 96 := z02 zni rfl
@[simp] theorem zti : prog.cellsOf 97 = 1 := by kernel_rfl
@[simp] theorem znj : prog.info? 97 = some t97 := by kernel_rfl
@[simp] theorem zzg : z01 prog 97 := z02 znj rfl
@[simp] theorem ztj : prog.cellsOf 98 = 1 := by kernel_rfl
@[simp] theorem znk : prog.info? 98 = some t98 := by kernel_rfl
@[simp] theorem zzh : z01 prog 98 := z02 znk rfl
@[simp] theorem ztk : prog.cellsOf 99 = 1 := by kernel_rfl
@[simp] theorem znl : prog.info? 99 = some t99 := by kernel_rfl
@[simp] theorem zzi : z01 prog 99 := z02 znl rfl
@[simp] theorem znX : prog.cellsOf 100 = 3 := by kernel_rfl
@[simp] theorem zhE : prog.info? 100 = some t100 := by kernel_rfl
@[simp] theorem zuB : z01 prog 100 := z02 zhE rfl
@[simp] theorem z1o : prog.cellsOf 101 = 3 := by kernel_rfl
@[simp] theorem z21 : prog.info? 101 = some t101 := by kernel_rfl
@[simp] theorem z6W : z01 prog 101 := z02 z21 rfl
@[simp] theorem znY : prog.cellsOf 102 = 1 := by kernel_rfl
@[simp] theorem zhF : prog.info? 102 = some t102 := by kernel_rfl
@[simp] theorem zuC : z01 prog 102 := z02 zhF rfl
@[simp] theorem znZ : prog.cellsOf 103 = 1 := by kernel_rfl
@[simp] theorem zhG : prog.info? 103 = some t103 := by kernel_rfl
@[simp] theorem zuD : z01 prog 103 := z02 zhG rfl
@[simp] theorem zo0 : prog.cellsOf 104 = 1 := by kernel_rfl
@[simp] theorem zhH : prog.info? 104 = some t104 := by kernel_rfl
@[simp] theorem zuE : z01 prog 104 := z02 zhH rfl
@[simp] theorem zo1 : prog.cellsOf 105 = 1 := by kernel_rfl
@[simp] theorem zhI : prog.info? 105 = some t105 := by kernel_rfl
@[simp] theorem zuF : z01 prog 105 := z02 zhI rfl
@[simp] theorem zo2 : prog.cellsOf 106 = 2 := by kernel_rfl
@[simp] theorem zhJ : prog.info? 106 = some t106 := by kernel_rfl
@[simp] theorem zuG : z01 prog 106 := z02 zhJ rfl
@[simp] theorem zo3 : prog.cellsOf 107 = 2 := by kernel_rfl
@[simp] theorem zhK : prog.info? 107 = some t107 := by kernel_rfl
@[simp] theorem zuH : z01 prog 107 := z02 zhK rfl
@[simp] theorem zo4 : prog.cellsOf 108 = 1 := by kernel_rfl
@[simp] theorem zhL : prog.info? 108 = some t108 := by kernel_rfl
@[simp] theorem zuI : z01 prog 108 := z02 zhL rfl
@[simp] theorem zo5 : prog.cellsOf 109 = 1 := by kernel_rfl
@[simp] theorem zhM : prog.info? 109 = some t109 := by kernel_rfl
@[simp] theorem zuJ : z01 prog 109 := z02 zhM rfl
@[simp] theorem zo6 : prog.cellsOf 110 = 1 := by kernel_rfl
@[simp] theorem zhN : prog.info? 110 = some t110 := by kernel_rfl
@[simp] theorem zuK : z01 prog 110 := z02 zhN rfl
@[simp] theorem zo7 : prog.cellsOf 111 = 1 := by kernel_rfl
@[simp] theorem zhO : prog.info? 111 = some t111 := by kernel_rfl
@[simp] theorem zuL : z01 prog 111 := z02 zhO rfl
@[simp] theorem zo8 : prog.cellsOf 112 = 1 := by kernel_rfl
@[simp] theorem zhP : prog.info? 112 = some t112 := by kernel_rfl
@[simp] theorem zuM : z01 prog 112 := z02 zhP rfl
@[simp] theorem zo9 : prog.cellsOf 113 = 1 := by kernel_rfl
@[simp] theorem zhQ : prog.info? 113 = some t113 := by kernel_rfl
@[simp] theorem zuN : z01 prog 113 := z02 zhQ rfl
@[simp] theorem zoa : prog.cellsOf 114 = 1 := by kernel_rfl
@[simp] theorem zhR : prog.info? 114 = some t114 := by kernel_rfl
@[simp] theorem zuO : z01 prog 114 := z02 zhR rfl
@[simp] theorem zob : prog.cellsOf 115 = 1 := by kernel_rfl
@[simp] theorem zhS : prog.info? 115 = some t115 := by kernel_rfl
@[simp] theorem zuP : z01 prog 115 := z02 zhS rfl
@[simp] theorem zoc : prog.cellsOf 116 = 1 := by kernel_rfl
@[simp] theorem zhT : prog.info? 116 = some t116 := by kernel_rfl
@[simp] theorem zuQ : z01 prog 116 := z02 zhT rfl
@[simp] theorem zod : prog.cellsOf 117 = 1 := by kernel_rfl
@[simp] theorem ztS : prog.info? 117 = some t117 := by kernel_rfl
@[simp] theorem zoe : prog.cellsOf 118 = 1 := by kernel_rfl
@[simp] theorem zhU : prog.info? 118 = some t118 := by kernel_rfl
@[simp] theorem zuR : z01 prog 118 := z02 zhU rfl
@[simp] theorem zof : prog.cellsOf 119 = 1 := by kernel_rfl
@[simp] theorem ztT : prog.info? 119 = some t119 := by kernel_rfl
@[simp] theorem zog : prog.cellsOf 120 = 1 := by kernel_rfl
@[simp] theorem zhV : prog.info? 120 = some t120 := by kernel_rfl
@[simp] theorem zuS : z01 prog 120 := z02 zhV rfl
@[simp] theorem zoh : prog.cellsOf 121 = 1 := by kernel_rfl
@[simp] theorem ztU : prog.info? 121 = some t121 := by kernel_rfl
@[simp] theorem zoi : prog.cellsOf 122 = 1 := by kernel_rfl
@[simp] theorem zhW : prog.info? 122 = some t122 := by kernel_rfl
@[simp] theorem zuT : z01 prog 122 := z02 zhW rfl
@[simp] theorem zoj : prog.cellsOf 123 = 1 := by kernel_rfl
@[simp] theorem ztV : prog.info? 123 = some t123 := by kernel_rfl
@[simp] theorem zok : prog.cellsOf 124 = 1 := by kernel_rfl
@[simp] theorem zhX : prog.info? 124 = some t124 := by kernel_rfl
@[simp] theorem zuU : z01 prog 124 := z02 zhX rfl
@[simp] theorem zol : prog.cellsOf 125 = 1 := by kernel_rfl
@[simp] theorem ztW : prog.info? 125 = some t125 := by kernel_rfl
@[simp] theorem zom : prog.cellsOf 126 = 1 := by kernel_rfl
@[simp] theorem zhY : prog.info? 126 = some t126 := by kernel_rfl
@[simp] theorem zuV : z01 prog 126 := z02 zhY rfl
@[simp] theorem zon : prog.cellsOf 127 = 1 := by kernel_rfl
@[simp] theorem ztX : prog.info? 127 = some t127 := by kernel_rfl
@[simp] theorem zoo : prog.cellsOf 128 = 1 := by kernel_rfl
@[simp] theorem zhZ : prog.info? 128 = some t128 := by kernel_rfl
@[simp] theorem zuW : z01 prog 128 := z02 zhZ rfl
@[simp] theorem z0T : prog.cellsOf 129 = 3 := by kernel_rfl
@[simp] theorem z1Q : prog.info? 129 = some t129 := by kernel_rfl
@[simp] theorem z2N : z01 prog 129 := z02 z1Q rfl
@[simp] theorem zop : prog.cellsOf 130 = 1 := by kernel_rfl
@[simp] theorem zi0 : prog.info? 130 = some t130 := by kernel_rfl
@[simp] theorem zuX : z01 prog 130 := z02 zi0 rfl
@[simp] theorem zoq : prog.cellsOf 131 = 1 := by kernel_rfl
@[simp] theorem zi1 : prog.info? 131 = some t131 := by kernel_rfl
@[simp] theorem zuY : z01 prog 131 := z02 zi1 rfl
@[simp] theorem zor : prog.cellsOf 132 = 1 := by kernel_rfl
@[simp] theorem zi2 : prog.info? 132 = some t132 := by kernel_rfl
@[simp] theorem zuZ : z01 prog 132 := z02 zi2 rfl
@[simp] theorem zos : prog.cellsOf 133 = 1 := by kernel_rfl
@[simp] theorem zi3 : prog.info? 133 = some t133 := by kernel_rfl
@[simp] theorem zv0 : z01 prog 133 := z02 zi3 rfl
@[simp] theorem zot : prog.cellsOf 134 = 1 := by kernel_rfl
@[simp] theorem zi4 : prog.info? 134 = some t134 := by kernel_rfl
@[simp] theorem zv1 : z01 prog 134 := z02 zi4 rfl
@[simp] theorem zou : prog.cellsOf 135 = 1 := by kernel_rfl
@[simp] theorem zi5 : prog.info? 135 = some t135 := by kernel_rfl
@[simp] theorem zv2 : z01 prog 135 := z02 zi5 rfl
@[simp] theorem zov : prog.cellsOf 136 = 2 := by kernel_rfl
@[simp] theorem zi6 : prog.info? 136 = some t136 := by kernel_rfl
@[simp] theorem zv3 : z01 prog 136 := z02 zi6 rfl
@[simp] theorem zow : prog.cellsOf 137 = 2 := by kernel_rfl
@[simp] theorem zi7 : prog.info? 137 = some t137 := by kernel_rfl
@[simp] theorem zv4 : z01 prog 137 := z02 zi7 rfl
@[simp] theorem zox : prog.cellsOf 138 = 2 := by kernel_rfl
@[simp] theorem zi8 : prog.info? 138 = some t138 := by kernel_rfl
@[simp] theorem zv5 : z01 prog 138 := z02 zi8 rfl
@[simp] theorem zoy : prog.cellsOf 139 = 1 := by kernel_rfl
@[simp] theorem ztY : prog.info? 139 = some t139 := by kernel_rfl
@[simp] theorem zoz : prog.cellsOf 140 = 1 := by kernel_rfl
@[simp] theorem zi9 : prog.info? 140 = some t140 := by kernel_rfl
@[simp] theorem zv6 : z01 prog 140 := z02 zi9 rfl
@[simp] theorem zoA : prog.cellsOf 141 = 3 := by kernel_rfl
@[simp] theorem zia : prog.info? 141 = some t141 := by kernel_rfl
@[simp] theorem zv7 : z01 prog 141 := z02 zia rfl
@[simp] theorem zoB : prog.cellsOf 142 = 3 := by kernel_rfl
@[simp] theorem zib : prog.info? 142 = some t142 := by kernel_rfl
@[simp] theorem zv8 : z01 prog 142 := z02 zib rfl
@[simp] theorem zoC : prog.cellsOf 143 = 1 := by kernel_rfl
@[simp] theorem zic : prog.info? 143 = some t143 := by kernel_rfl
@[simp] theorem zv9 : z01 prog 143 := z02 zic rfl
@[simp] theorem zoD : prog.cellsOf 144 = 1 := by kernel_rfl
@[simp] theorem zid : prog.info? 144 = some t144 := by kernel_rfl
@[simp] theorem zva : z01 prog 144 := z02 zid rfl
@[simp] theorem zoE : prog.cellsOf 145 = 1 := by kernel_rfl
@[simp] theorem zie : prog.info? 145 = some t145 := by kernel_rfl
@[simp] theorem zvb : z01 prog 145 := z02 zie rfl
@[simp] theorem zoF : prog.cellsOf 146 = 1 := by kernel_rfl
@[simp] theorem zif : prog.info? 146 = some t146 := by kernel_rfl
@[simp] theorem zvc : z01 prog 146 := z02 zif rfl
@[simp] theorem zoG : prog.cellsOf 147 = 3 := by kernel_rfl
@[simp] theorem zig : prog.info? 147 = some t147 := by kernel_rfl
@[simp] theorem zvd : z01 prog 147 := z02 zig rfl
@[simp] theorem zoH : prog.cellsOf 148 = 3 := by kernel_rfl
@[simp] theorem zih : prog.info? 148 = some t148 := by kernel_rfl
@[simp] theorem zve : z01 prog 148 := z02 zih rfl
@[simp] theorem zoI : prog.cellsOf 149 = 1 := by kernel_rfl
@[simp] theorem zii : prog.info? 149 = some t149 := by kernel_rfl
@[simp] theorem zvf : z01 prog 149 := z02 zii rfl
@[simp] theorem zoJ : prog.cellsOf 150 = 1 := by kernel_rfl
@[simp] theorem zij : prog.info? 150 = some t150 := by kernel_rfl
@[simp] theorem zvg : z01 prog 150 := z02 zij rfl
@[simp] theorem zoK : prog.cellsOf 151 = 1 := by kernel_rfl
@[simp] theorem zik : prog.info? 151 = some t151 := by kernel_rfl
@[simp] theorem zvh : z01 prog 151 := z02 zik rfl
@[simp] theorem zoL : prog.cellsOf 152 = 1 := by kernel_rfl
@[simp] theorem zil : prog.info? 152 = some t152 := by kernel_rfl
@[simp] theorem zvi : z01 prog 152 := z02 zil rfl
@[simp] theorem zoM : prog.cellsOf 153 = 1 := by kernel_rfl
@[simp] theorem zim : prog.info? 153 = some t153 := by kernel_rfl
@[simp] theorem zvj : z01 prog 153 := z02 zim rfl
@[simp] theorem zoN : prog.cellsOf 154 = 1 := by kernel_rfl
@[simp] theorem zin : prog.info? 154 = some t154 := by kernel_rfl
@[simp] theorem zvk : z01 prog 154 := z02 zin rfl
@[simp] theorem zoO : prog.cellsOf 155 = 1 := by kernel_rfl
@[simp] theorem zio : prog.info? 155 = some t155 := by kernel_rfl
@[simp] theorem zvl : z01 prog 155 := z02 zio rfl
@[simp] theorem zoP : prog.cellsOf 156 = 1 := by kernel_rfl
@[simp] theorem zip : prog.info? 156 = some t156 := by kernel_rfl
@[simp] theorem zvm : z01 prog 156 := z02 zip rfl
@[simp] theorem zoQ : prog.cellsOf 157 = 1 := by kernel_rfl
@[simp] theorem ziq : prog.info? 157 = some t157 := by kernel_rfl
@[simp] theorem zvn : z01 prog 157 := z02 ziq rfl
@[simp] theorem zoR : prog.cellsOf 158 = 1 := by kernel_rfl
@[simp] theorem zir : prog.info? 158 = some t158 := by kernel_rfl
@[simp] theorem zvo : z01 prog 158 := z02 zir rfl
@[simp] theorem zoS : prog.cellsOf 159 = 1 := by kernel_rfl
@[simp] theorem zis : prog.info? 159 = some t159 := by kernel_rfl
@[simp] theorem zvp : z01 prog 159 := z02 zis rfl
@[simp] theorem zoT : prog.cellsOf 160 = 1 := by kernel_rfl
@[simp] theorem zit : prog.info? 160 = some t160 := by kernel_rfl
@[simp] theorem zvq : z01 prog 160 := z02 zit rfl
@[simp] theorem zoU : prog.cellsOf 161 = 1 := by kernel_rfl
@[simp] theorem ziu : prog.info? 161 = some t161 := by kernel_rfl
@[simp] theorem zvr : z01 prog 161 := z02 ziu rfl
@[simp] theorem zoV : prog.cellsOf 162 = 3 := by kernel_rfl
@[simp] theorem ziv : prog.info? 162 = some t162 := by kernel_rfl
@[simp] theorem zvs : z01 prog 162 := z02 ziv rfl
@[simp] theorem zoW : prog.cellsOf 163 = 1 := by kernel_rfl
@[simp] theorem ziw : prog.info? 163 = some t163 := by kernel_rfl
@[simp] theorem zvt : z01 prog 163 := z02 ziw rfl
@[simp] theorem zoX : prog.cellsOf 164 = 1 := by kernel_rfl
@[simp] theorem zix : prog.info? 164 = some t164 := by kernel_rfl
@[simp] theorem zvu : z01 prog 164 := z02 zix rfl
@[simp] theorem zoY : prog.cellsOf 165 = 1 := by kernel_rfl
@[simp] theorem ziy : prog.info? 165 = some t165 := by kernel_rfl
@[simp] theorem zvv : z01 prog 165 := z02 ziy rfl
@[simp] theorem zoZ : prog.cellsOf 166 = 1 := by kernel_rfl
@[simp] theorem ziz : prog.info? 166 = some t166 := by kernel_rfl
@[simp] theorem zvw : z01 prog 166 := z02 ziz rfl
@[simp] theorem zp0 : prog.cellsOf 167 = 1 := by kernel_rfl
@[simp] theorem ziA : prog.info? 167 = some t167 := by kernel_rfl
@[simp] theorem zvx : z01 prog 167 := z02 ziA rfl
@[simp] theorem zp1 : prog.cellsOf 168 = 1 := by kernel_rfl
@[simp] theorem ziB : prog.info? 168 = some t168 := by kernel_rfl
@[simp] theorem zvy : z01 prog 168 := z02 ziB rfl
@[simp] theorem zp2 : prog.cellsOf 169 = 1 := by kernel_rfl
@[simp] theorem ziC : prog.info? 169 = some t169 := by kernel_rfl
@[simp] theorem zvz : z01 prog 169 := z02 ziC rfl
@[simp] theorem zp3 : prog.cellsOf 170 = 1 := by kernel_rfl
@[simp] theorem ziD : prog.info? 170 = some t170 := by kernel_rfl
@[simp] theorem zvA : z01 prog 170 := z02 ziD rfl
@[simp] theorem zp4 : prog.cellsOf 171 = 1 := by kernel_rfl
@[simp] theorem ziE : prog.info? 171 = some t171 := by kernel_rfl
@[simp] theorem zvB : z01 prog 171 := z02 ziE rfl
@[simp] theorem zp5 : prog.cellsOf 172 = 1 := by kernel_rfl
@[simp] theorem ztZ : prog.info? 172 = some t172 := by kernel_rfl
@[simp] theorem zp6 : prog.cellsOf 173 = 1 := by kernel_rfl
@[simp] theorem ziF : prog.info? 173 = some t173 := by kernel_rfl
@[simp] theorem zvC : z01 prog 173 := z02 ziF rfl
@[simp] theorem zp7 : prog.cellsOf 174 = 1 := by kernel_rfl
@[simp] theorem ziG : prog.info? 174 = some t174 := by kernel_rfl
@[simp] theorem zvD : z01 prog 174 := z02 ziG rfl
@[simp] theorem zp8 : prog.cellsOf 175 = 1 := by kernel_rfl
@[simp] theorem ziH : prog.info? 175 = some t175 := by kernel_rfl
@[simp] theorem zvE : z01 prog 175 := z02 ziH rfl
@[simp] theorem zp9 : prog.cellsOf 176 = 1 := by kernel_rfl
@[simp] theorem ziI : prog.info? 176 = some t176 := by kernel_rfl
@[simp] theorem zvF : z01 prog 176 := z02 ziI rfl
@[simp] theorem zpa : prog.cellsOf 177 = 1 := by kernel_rfl
@[simp] theorem ziJ : prog.info? 177 = some t177 := by kernel_rfl
@[simp] theorem zvG : z01 prog 177 := z02 ziJ rfl
@[simp] theorem zpb : prog.cellsOf 178 = 1 := by kernel_rfl
@[simp] theorem ziK : prog.info? 178 = some t178 := by kernel_rfl
@[simp] theorem zvH : z01 prog 178 := z02 ziK rfl
@[simp] theorem zpc : prog.cellsOf 179 = 1 := by kernel_rfl
@[simp] theorem ziL : prog.info? 179 = some t179 := by kernel_rfl
@[simp] theorem zvI : z01 prog 179 := z02 ziL rfl
@[simp] theorem zpd : prog.cellsOf 180 = 1 := by kernel_rfl
@[simp] theorem ziM : prog.info? 180 = some t180 := by kernel_rfl
@[simp] theorem zvJ : z01 prog 180 := z02 ziM rfl
@[simp] theorem zpe : prog.cellsOf 181 = 1 := by kernel_rfl
@[simp] theorem ziN : prog.info? 181 = some t181 := by kernel_rfl
@[simp] theorem zvK : z01 prog 181 := z02 ziN rfl
@[simp] theorem zpf : prog.cellsOf 182 = 1 := by kernel_rfl
@[simp] theorem ziO : prog.info? 182 = some t182 := by kernel_rfl
@[simp] theorem zvL : z01 prog 182 := z02 ziO rfl
@[simp] theorem zpg : prog.cellsOf 183 = 2 := by kernel_rfl
@[simp] theorem ziP : prog.info? 183 = some t183 := by kernel_rfl
@[simp] theorem zvM : z01 prog 183 := z02 ziP rfl
@[simp] theorem zph : prog.cellsOf 184 = 2 := by kernel_rfl
@[simp] theorem ziQ : prog.info? 184 = some t184 := by kernel_rfl
@[simp] theorem zvN : z01 prog 184 := z02 ziQ rfl
@[simp] theorem zpi : prog.cellsOf 185 = 1 := by kernel_rfl
@[simp] theorem zu0 : prog.info? 185 = some t185 := by kernel_rfl
@[simp] theorem zpj : prog.cellsOf 186 = 1 := by kernel_rfl
@[simp] theorem ziR : prog.info? 186 = some t186 := by kernel_rfl
@[simp] theorem zvO : z01 prog 186 := z02 ziR rfl
@[simp] theorem zpk : prog.cellsOf 187 = 1 := by kernel_rfl
@[simp] theorem zu1 : prog.info? 187 = some t187 := by kernel_rfl
@[simp] theorem zpl : prog.cellsOf 188 = 1 := by kernel_rfl
@[simp] theorem ziS : prog.info? 188 = some t188 := by kernel_rfl
@[simp] theorem zvP : z01 prog 188 := z02 ziS rfl
@[simp] theorem zpm : prog.cellsOf 189 = 1 := by kernel_rfl
@[simp] theorem ziT : prog.info? 189 = some t189 := by kernel_rfl
@[simp] theorem zvQ : z01 prog 189 := z02 ziT rfl
@[simp] theorem zpn : prog.cellsOf 190 = 1 := by kernel_rfl
@[simp] theorem ziU : prog.info? 190 = some t190 := by kernel_rfl
@[simp] theorem zvR : z01 prog 190 := z02 ziU rfl
@[simp] theorem zpo : prog.cellsOf 191 = 1 := by kernel_rfl
@[simp] theorem ziV : prog.info? 191 = some t191 := by kernel_rfl
@[simp] theorem zvS : z01 prog 191 := z02 ziV rfl
@[simp] theorem zpp : prog.cellsOf 192 = 1 := by kernel_rfl
@[simp] theorem zu2 : prog.info? 192 = some t192 := by kernel_rfl
@[simp] theorem zpq : prog.cellsOf 193 = 1 := by kernel_rfl
@[simp] theorem ziW : prog.info? 193 = some t193 := by kernel_rfl
@[simp] theorem zvT : z01 prog 193 := z02 ziW rfl
@[simp] theorem zpr : prog.cellsOf 194 = 1 := by kernel_rfl
@[simp] theorem ziX : prog.info? 194 = some t194 := by kernel_rfl
@[simp] theorem zvU : z01 prog 194 := z02 ziX rfl
@[simp] theorem zps : prog.cellsOf 195 = 1 := by kernel_rfl
@[simp] theorem zu3 : prog.info? 195 = some t195 := by kernel_rfl
@[simp] theorem zpt : prog.cellsOf 196 = 1 := by kernel_rfl
@[simp] theorem ziY : prog.info? 196 = some t196 := by kernel_rfl
@[simp] theorem zvV : z01 prog 196 := z02 ziY rfl
@[simp] theorem zpu : prog.cellsOf 197 = 2 := by kernel_rfl
@[simp] theorem ziZ : prog.info? 197 = some t197 := by kernel_rfl
@[simp] theorem zvW : z01 prog 197 := z02 ziZ rfl
@[simp] theorem zpv : prog.cellsOf 198 = 2 := by kernel_rfl
@[simp] theorem zj0 : prog.info? 198 = some t198 := by kernel_rfl
@[simp] theorem zvX : z01 prog 198 := z02 zj0 rfl
@[simp] theorem zpw : prog.cellsOf 199 = 1 := by kernel_rfl
@[simp] theorem zu4 : prog.info? 199 = some t199 := by kernel_rfl
@[simp] theorem zpx : prog.cellsOf 200 = 1 := by kernel_rfl
@[simp] theorem zj1 : prog.info? 200 = some t200 := by kernel_rfl
@[simp] theorem zvY : z01 prog 200 := z02 zj1 rfl
@[simp] theorem zpy : prog.cellsOf 201 = 1 := by kernel_rfl
@[simp] theorem zj2 : prog.info? 201 = some t201 := by kernel_rfl
@[simp] theorem zvZ : z01 prog 201 := z02 zj2 rfl
@[simp] theorem zpz : prog.cellsOf 202 = 1 := by kernel_rfl
@[simp] theorem zj3 : prog.info? 202 = some t202 := by kernel_rfl
@[simp] theorem zw0 : z01 prog 202 := z02 zj3 rfl
@[simp] theorem zpA : prog.cellsOf 203 = 1 := by kernel_rfl
@[simp] theorem zj4 : prog.info? 203 = some t203 := by kernel_rfl
@[simp] theorem zw1 : z01 prog 203 := z02 zj4 rfl
@[simp] theorem zpB : prog.cellsOf 204 = 1 := by kernel_rfl
@[simp] theorem zu5 : prog.info? 204 = some t204 := by kernel_rfl
@[simp] theorem zpC : prog.cellsOf 205 = 1 := by kernel_rfl
@[simp] theorem zj5 : prog.info? 205 = some t205 := by kernel_rfl
@[simp] theorem zw2 : z01 prog 205 := z02 zj5 rfl
@[simp] theorem zpD : prog.cellsOf 206 = 1 := by kernel_rfl
@[simp] theorem zu6 : prog.info? 206 = some t206 := by kernel_rfl
@[simp] theorem zpE : prog.cellsOf 207 = 1 := by kernel_rfl
@[simp] theorem zj6 : prog.info? 207 = some t207 := by kernel_rfl
@[simp] theorem zw3 : z01 prog 207 := z02 zj6 rfl
@[simp] theorem zpF : prog.cellsOf 208 = 2 := by kernel_rfl
@[simp] theorem zj7 : prog.info? 208 = some t208 := by kernel_rfl
@[simp] theorem zw4 : z01 prog 208 := z02 zj7 rfl
@[simp] theorem zpG : prog.cellsOf 209 = 1 := by kernel_rfl
@[simp] theorem zu7 : prog.info? 209 = some t209 := by kernel_rfl
@[simp] theorem zpH : prog.cellsOf 210 = 1 := by kernel_rfl
@[simp] theorem zj8 : prog.info? 210 = some t210 := by kernel_rfl
@[simp] theorem zw5 : z01 prog 210 := z02 zj8 rfl
@[simp] theorem zpI : prog.cellsOf 211 = 1 := by kernel_rfl
@[simp] theorem zu8 : prog.info? 211 = some t211 := by kernel_rfl
@[simp] theorem zpJ : prog.cellsOf 212 = 1 := by kernel_rfl
@[simp] theorem zj9 : prog.info? 212 = some t212 := by kernel_rfl
@[simp] theorem zw6 : z01 prog 212 := z02 zj9 rfl
@[simp] theorem zpK : prog.cellsOf 213 = 1 := by kernel_rfl
@[simp] theorem zu9 : prog.info? 213 = some t213 := by kernel_rfl
@[simp] theorem zpL : prog.cellsOf 214 = 1 := by kernel_rfl
@[simp] theorem zja : prog.info? 214 = some t214 := by kernel_rfl
@[simp] theorem zw7 : z01 prog 214 := z02 zja rfl
@[simp] theorem zpM : prog.cellsOf 215 = 1 := by kernel_rfl
@[simp] theorem zjb : prog.info? 215 = some t215 := by kernel_rfl
@[simp] theorem zw8 : z01 prog 215 := z02 zjb rfl
@[simp] theorem zpN : prog.cellsOf 216 = 4 := by kernel_rfl
@[simp] theorem zjc : prog.info? 216 = some t216 := by kernel_rfl
@[simp] theorem zw9 : z01 prog 216 := z02 zjc rfl
@[simp] theorem z1A : prog.cellsOf 217 = 4 := by kernel_rfl
@[simp] theorem z2g : prog.info? 217 = some t217 := by kernel_rfl
@[simp] theorem z34 : z01 prog 217 := z02 z2g rfl
@[simp] theorem zpO : prog.cellsOf 218 = 1 := by kernel_rfl
@[simp] theorem zua : prog.info? 218 = some t218 := by kernel_rfl
@[simp] theorem zpP : prog.cellsOf 219 = 1 := by kernel_rfl
@[simp] theorem zjd : prog.info? 219 = some t219 := by kernel_rfl
@[simp] theorem zwa : z01 prog 219 := z02 zjd rfl
@[simp] theorem zpQ : prog.cellsOf 220 = 1 := by kernel_rfl
@[simp] theorem zje : prog.info? 220 = some t220 := by kernel_rfl
@[simp] theorem zwb : z01 prog 220 := z02 zje rfl
@[simp] theorem zpR : prog.cellsOf 221 = 1 := by kernel_rfl
@[simp] theorem zjf : prog.info? 221 = some t221 := by kernel_rfl
@[simp] theorem zwc : z01 prog 221 := z02 zjf rfl
@[simp] theorem zpS : prog.cellsOf 222 = 1 := by kernel_rfl
@[simp] theorem zjg : prog.info? 222 = some t222 := by kernel_rfl
@[simp] theorem zwd : z01 prog 222 := z02 zjg rfl
@[simp] theorem zpT : prog.cellsOf 223 = 1 := by kernel_rfl
@[simp] theorem zjh : prog.info? 223 = some t223 := by kernel_rfl
@[simp] theorem zwe : z01 prog 223 := z02 zjh rfl
@[simp] theorem zpU : prog.cellsOf 224 = 1 := by kernel_rfl
@[simp] theorem zji : prog.info? 224 = some t224 := by kernel_rfl
@[simp] theorem zwf : z01 prog 224 := z02 zji rfl
@[simp] theorem zpV : prog.cellsOf 225 = 1 := by kernel_rfl
@[simp] theorem zjj : prog.info? 225 = some t225 := by kernel_rfl
@[simp] theorem zwg : z01 prog 225 := z02 zjj rfl
@[simp] theorem zpW : prog.cellsOf 226 = 1 := by kernel_rfl
@[simp] theorem zjk : prog.info? 226 = some t226 := by kernel_rfl
@[simp] theorem zwh : z01 prog 226 := z02 zjk rfl
@[simp] theorem zpX : prog.cellsOf 227 = 1 := by kernel_rfl
@[simp] theorem zjl : prog.info? 227 = some t227 := by kernel_rfl
@[simp] theorem zwi : z01 prog 227 := z02 zjl rfl
@[simp] theorem zpY : prog.cellsOf 228 = 1 := by kernel_rfl
@[simp] theorem zjm : prog.info? 228 = some t228 := by kernel_rfl
@[simp] theorem zwj : z01 prog 228 := z02 zjm rfl
@[simp] theorem zpZ : prog.cellsOf 229 = 1 := by kernel_rfl
@[simp] theorem zjn : prog.info? 229 = some t229 := by kernel_rfl
@[simp] theorem zwk : z01 prog 229 := z02 zjn rfl
@[simp] theorem zq0 : prog.cellsOf 230 = 5 := by kernel_rfl
@[simp] theorem zjo : prog.info? 230 = some t230 := by kernel_rfl
@[simp] theorem zwl : z01 prog 230 := z02 zjo rfl
@[simp] theorem zq1 : prog.cellsOf 231 = 5 := by kernel_rfl
@[simp] theorem zjp : prog.info? 231 = some t231 := by kernel_rfl
@[simp] theorem zwm : z01 prog 231 := z02 zjp rfl
@[simp] theorem zq2 : prog.cellsOf 232 = 1 := by kernel_rfl
@[simp] theorem zjq : prog.info? 232 = some t232 := by kernel_rfl
@[simp] theorem zwn : z01 prog 232 := z02 zjq rfl
@[simp] theorem zq3 : prog.cellsOf 233 = 7 := by kernel_rfl
@[simp] theorem zjr : prog.info? 233 = some t233 := by kernel_rfl
@[simp] theorem zwo : z01 prog 233 := z02 zjr rfl
@[simp] theorem zq4 : prog.cellsOf 234 = 7 := by kernel_rfl
@[simp] theorem zjs : prog.info? 234 = some t234 := by kernel_rfl
@[simp] theorem zwp : z01 prog 234 := z02 zjs rfl
@[simp] theorem zq5 : prog.cellsOf 235 = 1 := by kernel_rfl
@[simp] theorem zjt : prog.info? 235 = some t235 := by kernel_rfl
@[simp] theorem zwq : z01 prog 235 := z02 zjt rfl
@[simp] theorem zq6 : prog.cellsOf 236 = 1 := by kernel_rfl
@[simp] theorem zju : prog.info? 236 = some t236 := by kernel_rfl
@[simp] theorem zwr : z01 prog 236 := z02 zju rfl
@[simp] theorem zq7 : prog.cellsOf 237 = 1 := by kernel_rfl
@[simp] theorem zjv : prog.info? 237 = some t237 := by kernel_rfl
@[simp] theorem zws : z01 prog 237 := z02 zjv rfl
@[simp] theorem zq8 : prog.cellsOf 238 = 1 := by kernel_rfl
@[simp] theorem zjw : prog.info? 238 = some t238 := by kernel_rfl
@[simp] theorem zwt : z01 prog 238 := z02 zjw rfl
@[simp] theorem zq9 : prog.cellsOf 239 = 1 := by kernel_rfl
@[simp] theorem zjx : prog.info? 239 = some t239 := by kernel_rfl
@[simp] theorem zwu : z01 prog 239 := z02 zjx rfl
@[simp] theorem zqa : prog.cellsOf 240 = 1 := by kernel_rfl
@[simp] theorem zjy : prog.info? 240 = some t240 := by kernel_rfl
@[simp] theorem zwv : z01 prog 240 := z02 zjy rfl
@[simp] theorem zqb : prog.cellsOf 241 = 1 := by kernel_rfl
@[simp] theorem zjz : prog.info? 241 = some t241 := by kernel_rfl
@[simp] theorem zww : z01 prog 241 := z02 zjz rfl
@[simp] theorem zqc : prog.cellsOf 242 = 1 := by kernel_rfl
@[simp] theorem zub : prog.info? 242 = some t242 := by kernel_rfl
@[simp] theorem zqd : prog.cellsOf 243 = 1 := by kernel_rfl
@[simp] theorem zjA : prog.info? 243 = some t243 := by kernel_rfl
@[simp] theorem zwx : z01 prog 243 := z02 zjA rfl
@[simp] theorem zqe : prog.cellsOf 244 = 1 := by kernel_rfl
@[simp] theorem zjB : prog.info? 244 = some t244 := by kernel_rfl
@[simp] theorem zwy : z01 prog 244 := z02 zjB rfl
@[simp] theorem zqf : prog.cellsOf 245 = 1 := by kernel_rfl
@[simp] theorem zjC : prog.info? 245 = some t245 := by kernel_rfl
@[simp] theorem zwz : z01 prog 245 := z02 zjC rfl
@[simp] theorem zqg : prog.cellsOf 246 = 1 := by kernel_rfl
@[simp] theorem zjD : prog.info? 246 = some t246 := by kernel_rfl
@[simp] theorem zwA : z01 prog 246 := z02 zjD rfl
@[simp] theorem zqh : prog.cellsOf 247 = 1 := by kernel_rfl
@[simp] theorem zjE : prog.info? 247 = some t247 := by kernel_rfl
@[simp] theorem zwB : z01 prog 247 := z02 zjE rfl
@[simp] theorem zqi : prog.cellsOf 248 = 1 := by kernel_rfl
@[simp] theorem zjF : prog.info? 248 = some t248 := by kernel_rfl
@[simp] theorem zwC : z01 prog 248 := z02 zjF rfl
@[simp] theorem zqj : prog.cellsOf 249 = 1 := by kernel_rfl
@[simp] theorem zjG : prog.info? 249 = some t249 := by kernel_rfl
@[simp] theorem zwD : z01 prog 249 := z02 zjG rfl
@[simp] theorem zqk : prog.cellsOf 250 = 1 := by kernel_rfl
@[simp] theorem zjH : prog.info? 250 = some t250 := by kernel_rfl
@[simp] theorem zwE : z01 prog 250 := z02 zjH rfl
@[simp] theorem zql : prog.cellsOf 251 = 1 := by kernel_rfl
@[simp] theorem zjI : prog.info? 251 = some t251 := by kernel_rfl
@[simp] theorem zwF : z01 prog 251 := z02 zjI rfl
@[simp] theorem zqm : prog.cellsOf 252 = 1 := by kernel_rfl
@[simp] theorem zjJ : prog.info? 252 = some t252 := by kernel_rfl
@[simp] theorem zwG : z01 prog 252 := z02 zjJ rfl
@[simp] theorem zqn : prog.cellsOf 253 = 1 := by kernel_rfl
@[simp] theorem zjK : prog.info? 253 = some t253 := by kernel_rfl
@[simp] theorem zwH : z01 prog 253 := z02 zjK rfl
@[simp] theorem zqo : prog.cellsOf 254 = 1 := by kernel_rfl
@[simp] theorem zjL : prog.info? 254 = some t254 := by kernel_rfl
@[simp] theorem zwI : z01 prog 254 := z02 zjL rfl
@[simp] theorem zqp : prog.cellsOf 255 = 1 := by kernel_rfl
@[simp] theorem zjM : prog.info? 255 = some t255 := by kernel_rfl
@[simp] theorem zwJ : z01 prog 255 := z02 zjM rfl
@[simp] theorem zqq : prog.cellsOf 256 = 1 := by kernel_rfl
@[simp] theorem zjN : prog.info? 256 = some t256 := by kernel_rfl
@[simp] theorem zwK : z01 prog 256 := z02 zjN rfl
@[simp] theorem zqr : prog.cellsOf 257 = 1 := by kernel_rfl
@[simp] theorem zjO : prog.info? 257 = some t257 := by kernel_rfl
@[simp] theorem zwL : z01 prog 257 := z02 zjO rfl
@[simp] theorem zqs : prog.cellsOf 258 = 1 := by kernel_rfl
@[simp] theorem zuc : prog.info? 258 = some t258 := by kernel_rfl
@[simp] theorem zqt : prog.cellsOf 259 = 1 := by kernel_rfl
@[simp] theorem zjP : prog.info? 259 = some t259 := by kernel_rfl
@[simp] theorem zwM : z01 prog 259 := z02 zjP rfl
@[simp] theorem zqu : prog.cellsOf 260 = 1 := by kernel_rfl
@[simp] theorem zud : prog.info? 260 = some t260 := by kernel_rfl
@[simp] theorem zqv : prog.cellsOf 261 = 1 := by kernel_rfl
@[simp] theorem zjQ : prog.info? 261 = some t261 := by kernel_rfl
@[simp] theorem zwN : z01 prog 261 := z02 zjQ rfl
@[simp] theorem zqw : prog.cellsOf 262 = 1 := by kernel_rfl
@[simp] theorem zue : prog.info? 262 = some t262 := by kernel_rfl
@[simp] theorem zqx : prog.cellsOf 263 = 1 := by kernel_rfl
@[simp] theorem zjR : prog.info? 263 = some t263 := by kernel_rfl
@[simp] theorem zwO : z01 prog 263 := z02 zjR rfl
@[simp] theorem zqy : prog.cellsOf 264 = 1 := by kernel_rfl
@[simp] theorem zjS : prog.info? 264 = some t264 := by kernel_rfl
@[simp] theorem zwP : z01 prog 264 := z02 zjS rfl
@[simp] theorem zqz : prog.cellsOf 265 = 1 := by kernel_rfl
@[simp] theorem zjT : prog.info? 265 = some t265 := by kernel_rfl
@[simp] theorem zwQ : z01 prog 265 := z02 zjT rfl
@[simp] theorem zqA : prog.cellsOf 266 = 1 := by kernel_rfl
@[simp] theorem zjU : prog.info? 266 = some t266 := by kernel_rfl
@[simp] theorem zwR : z01 prog 266 := z02 zjU rfl
@[simp] theorem zqB : prog.cellsOf 267 = 1 := by kernel_rfl
@[simp] theorem zjV : prog.info? 267 = some t267 := by kernel_rfl
@[simp] theorem zwS : z01 prog 267 := z02 zjV rfl
@[simp] theorem zqC : prog.cellsOf 268 = 1 := by kernel_rfl
@[simp] theorem zuf : prog.info? 268 = some t268 := by kernel_rfl
@[simp] theorem zqD : prog.cellsOf 269 = 1 := by kernel_rfl
@[simp] theorem zjW : prog.info? 269 = some t269 := by kernel_rfl
@[simp] theorem zwT : z01 prog 269 := z02 zjW rfl
@[simp] theorem zqE : prog.cellsOf 270 = 1 := by kernel_rfl
@[simp] theorem zjX : prog.info? 270 = some t270 := by kernel_rfl
@[simp] theorem zwU : z01 prog 270 := z02 zjX rfl
@[simp] theorem zqF : prog.cellsOf 271 = 1 := by kernel_rfl
@[simp] theorem zug : prog.info? 271 = some t271 := by kernel_rfl
@[simp] theorem zqG : prog.cellsOf 272 = 1 := by kernel_rfl
@[simp] theorem zjY : prog.info? 272 = some t272 := by kernel_rfl
@[simp] theorem zwV : z01 prog 272 := z02 zjY rfl
@[simp] theorem zqH : prog.cellsOf 273 = 1 := by kernel_rfl
@[simp] theorem zuh : prog.info? 273 = some t273 := by kernel_rfl
@[simp] theorem zqI : prog.cellsOf 274 = 1 := by kernel_rfl
@[simp] theorem zjZ : prog.info? 274 = some t274 := by kernel_rfl
@[simp] theorem zwW : z01 prog 274 := z02 zjZ rfl
@[simp] theorem zqJ : prog.cellsOf 275 = 1 := by kernel_rfl
@[simp] theorem zk0 : prog.info? 275 = some t275 := by kernel_rfl
@[simp] theorem zwX : z01 prog 275 := z02 zk0 rfl
@[simp] theorem zqK : prog.cellsOf 276 = 1 := by kernel_rfl
@[simp] theorem zk1 : prog.info? 276 = some t276 := by kernel_rfl
@[simp] theorem zwY : z01 prog 276 := z02 zk1 rfl
@[simp] theorem zqL : prog.cellsOf 277 = 1 := by kernel_rfl
@[simp] theorem zui : prog.info? 277 = some t277 := by kernel_rfl
@[simp] theorem zqM : prog.cellsOf 278 = 1 := by kernel_rfl
@[simp] theorem zk2 : prog.info? 278 = some t278 := by kernel_rfl
@[simp] theorem zwZ : z01 prog 278 := z02 zk2 rfl
@[simp] theorem zqN : prog.cellsOf 279 = 1 := by kernel_rfl
@[simp] theorem zk3 : prog.info? 279 = some t279 := by kernel_rfl
@[simp] theorem zx0 : z01 prog 279 := z02 zk3 rfl
@[simp] theorem zqO : prog.cellsOf 280 = 1 := by kernel_rfl
@[simp] theorem zk4 : prog.info? 280 = some t280 := by kernel_rfl
@[simp] theorem zx1 : z01 prog 280 := z02 zk4 rfl
@[simp] theorem zqP : prog.cellsOf 281 = 1 := by kernel_rfl
@[simp] theorem zk5 : prog.info? 281 = some t281 := by kernel_rfl
@[simp] theorem zx2 : z01 prog 281 := z02 zk5 rfl
@[simp] theorem zqQ : prog.cellsOf 282 = 1 := by kernel_rfl
@[simp] theorem zk6 : prog.info? 282 = some t282 := by kernel_rfl
@[simp] theorem zx3 : z01 prog 282 := z02 zk6 rfl
@[simp] theorem zqR : prog.cellsOf 283 = 1 := by kernel_rfl
@[simp] theorem zuj : prog.info? 283 = some t283 := by kernel_rfl
@[simp] theorem zqS : prog.cellsOf 284 = 1 := by kernel_rfl
@[simp] theorem zk7 : prog.info? 284 = some t284 := by kernel_rfl
@[simp] theorem zx4 : z01 prog 284 := z02 zk7 rfl
@[simp] theorem zqT : prog.cellsOf 285 = 1 := by kernel_rfl
@[simp] theorem zk8 : prog.info? 285 = some t285 := by kernel_rfl
@[simp] theorem zx5 : z01 prog 285 := z02 zk8 rfl
@[simp] theorem zqU : prog.cellsOf 286 = 1 := by kernel_rfl
@[simp] theorem zk9 : prog.info? 286 = some t286 := by kernel_rfl
@[simp] theorem zx6 : z01 prog 286 := z02 zk9 rfl
@[simp] theorem zqV : prog.cellsOf 287 = 1 := by kernel_rfl
@[simp] theorem zuk : prog.info? 287 = some t287 := by kernel_rfl
@[simp] theorem zqW : prog.cellsOf 288 = 1 := by kernel_rfl
@[simp] theorem zka : prog.info? 288 = some t288 := by kernel_rfl
@[simp] theorem zx7 : z01 prog 288 := z02 zka rfl
@[simp] theorem zqX : prog.cellsOf 289 = 1 := by kernel_rfl
@[simp] theorem zkb : prog.info? 289 = some t289 := by kernel_rfl
@[simp] theorem zx8 : z01 prog 289 := z02 zkb rfl
@[simp] theorem zqY : prog.cellsOf 290 = 1 := by kernel_rfl
@[simp] theorem zul : prog.info? 290 = some t290 := by kernel_rfl
@[simp] theorem zqZ : prog.cellsOf 291 = 1 := by kernel_rfl
@[simp] theorem zkc : prog.info? 291 = some t291 := by kernel_rfl
@[simp] theorem zx9 : z01 prog 291 := z02 zkc rfl
@[simp] theorem zr0 : prog.cellsOf 292 = 1 := by kernel_rfl
@[simp] theorem zkd : prog.info? 292 = some t292 := by kernel_rfl
@[simp] theorem zxa : z01 prog 292 := z02 zkd rfl
@[simp] theorem zr1 : prog.cellsOf 293 = 1 := by kernel_rfl
@[simp] theorem zum : prog.info? 293 = some t293 := by kernel_rfl
@[simp] theorem zr2 : prog.cellsOf 294 = 1 := by kernel_rfl
@[simp] theorem zke : prog.info? 294 = some t294 := by kernel_rfl
@[simp] theorem zxb : z01 prog 294 := z02 zke rfl
@[simp] theorem zr3 : prog.cellsOf 295 = 1 := by kernel_rfl
@[simp] theorem zkf : prog.info? 295 = some t295 := by kernel_rfl
@[simp] theorem zxc : z01 prog 295 := z02 zkf rfl
@[simp] theorem zr4 : prog.cellsOf 296 = 1 := by kernel_rfl
@[simp] theorem zkg : prog.info? 296 = some t296 := by kernel_rfl
@[simp] theorem zxd : z01 prog 296 := z02 zkg rfl
@[simp] theorem zr5 : prog.cellsOf 297 = 1 := by kernel_rfl
@[simp] theorem zkh : prog.info? 297 = some t297 := by kernel_rfl
@[simp] theorem zxe : z01 prog 297 := z02 zkh rfl
@[simp] theorem zr6 : prog.cellsOf 298 = 1 := by kernel_rfl
@[simp] theorem zki : prog.info? 298 = some t298 := by kernel_rfl
@[simp] theorem zxf : z01 prog 298 := z02 zki rfl
@[simp] theorem zr7 : prog.cellsOf 299 = 1 := by kernel_rfl
@[simp] theorem zkj : prog.info? 299 = some t299 := by kernel_rfl
@[simp] theorem zxg : z01 prog 299 := z02 zkj rfl
@[simp] theorem zr8 : prog.cellsOf 300 = 1 := by kernel_rfl
@[simp] theorem zkk : prog.info? 300 = some t300 := by kernel_rfl
@[simp] theorem zxh : z01 prog 300 := z02 zkk rfl
@[simp] theorem zr9 : prog.cellsOf 301 = 1 := by kernel_rfl
@[simp] theorem zkl : prog.info? 301 = some t301 := by kernel_rfl
@[simp] theorem zxi : z01 prog 301 := z02 zkl rfl
@[simp] theorem zra : prog.cellsOf 302 = 1 := by kernel_rfl
@[simp] theorem zkm : prog.info? 302 = some t302 := by kernel_rfl
@[simp] theorem zxj : z01 prog 302 := z02 zkm rfl
@[simp] theorem zrb : prog.cellsOf 303 = 1 := by kernel_rfl
@[simp] theorem zun : prog.info? 303 = some t303 := by kernel_rfl
@[simp] theorem zrc : prog.cellsOf 304 = 1 := by kernel_rfl
@[simp] theorem zkn : prog.info? 304 = some t304 := by kernel_rfl
@[simp] theorem zxk : z01 prog 304 := z02 zkn rfl
@[simp] theorem zrd : prog.cellsOf 305 = 1 := by kernel_rfl
@[simp] theorem zko : prog.info? 305 = some t305 := by kernel_rfl
@[simp] theorem zxl : z01 prog 305 := z02 zko rfl
@[simp] theorem zre : prog.cellsOf 306 = 1 := by kernel_rfl
@[simp] theorem zuo : prog.info? 306 = some t306 := by kernel_rfl
@[simp] theorem zrf : prog.cellsOf 307 = 1 := by kernel_rfl
@[simp] theorem zkp : prog.info? 307 = some t307 := by kernel_rfl
@[simp] theorem zxm : z01 prog 307 := z02 zkp rfl
@[simp] theorem zrg : prog.cellsOf 308 = 1 := by kernel_rfl
@[simp] theorem zkq : prog.info? 308 = some t308 := by kernel_rfl
@[simp] theorem zxn : z01 prog 308 := z02 zkq rfl
@[simp] theorem zrh : prog.cellsOf 309 = 1 := by kernel_rfl
@[simp] theorem zkr : prog.info? 309 = some t309 := by kernel_rfl
@[simp] theorem zxo : z01 prog 309 := z02 zkr rfl
@[simp] theorem zri : prog.cellsOf 310 = 1 := by kernel_rfl
@[simp] theorem zks : prog.info? 310 = some t310 := by kernel_rfl
@[simp] theorem zxp : z01 prog 310 := z02 zks rfl
@[simp] theorem zrj : prog.cellsOf 311 = 1 := by kernel_rfl
@[simp] theorem zkt : prog.info? 311 = some t311 := by kernel_rfl
@[simp] theorem zxq : z01 prog 311 := z02 zkt rfl
@[simp] theorem zrk : prog.cellsOf 312 = 1 := by kernel_rfl
@[simp] theorem zku : prog.info? 312 = some t312 := by kernel_rfl
@[simp] theorem zxr : z01 prog 312 := z02 zku rfl
@[simp] theorem zrl : prog.cellsOf 313 = 1 := by kernel_rfl
@[simp] theorem zkv : prog.info? 313 = some t313 := by kernel_rfl
@[simp] theorem zxs : z01 prog 313 := z02 zkv rfl
@[simp] theorem zrm : prog.cellsOf 314 = 1 := by kernel_rfl
@[simp] theorem zkw : prog.info? 314 = some t314 := by kernel_rfl
@[simp] theorem zxt : z01 prog 314 := z02 zkw rfl
@[simp] theorem zrn : prog.cellsOf 315 = 1 := by kernel_rfl
@[simp] theorem zkx : prog.info? 315 = some t315 := by kernel_rfl
@[simp] theorem zxu : z01 prog 315 := z02 zkx rfl
@[simp] theorem zro : prog.cellsOf 316 = 1 := by kernel_rfl
@[simp] theorem zky : prog.info? 316 = some t316 := by kernel_rfl
@[simp] theorem zxv : z01 prog 316 := z02 zky rfl
@[simp] theorem zrp : prog.cellsOf 317 = 1 := by kernel_rfl
@[simp] theorem zkz : prog.info? 317 = some t317 := by kernel_rfl
@[simp] theorem zxw : z01 prog 317 := z02 zkz rfl
@[simp] theorem zrq : prog.cellsOf 318 = 1 := by kernel_rfl
@[simp] theorem zkA : prog.info? 318 = some t318 := by kernel_rfl
@[simp] theorem zxx : z01 prog 318 := z02 zkA rfl
@[simp] theorem zrr : prog.cellsOf 319 = 1 := by kernel_rfl
@[simp] theorem zup : prog.info? 319 = some t319 := by kernel_rfl
@[simp] theorem zrs : prog.cellsOf 320 = 1 := by kernel_rfl
@[simp] theorem zkB : prog.info? 320 = some t320 := by kernel_rfl
@[simp] theorem zxy : z01 prog 320 := z02 zkB rfl
@[simp] theorem zrt : prog.cellsOf 321 = 1 := by kernel_rfl
@[simp] theorem zkC : prog.info? 321 = some t321 := by kernel_rfl
@[simp] theorem zxz : z01 prog 321 := z02 zkC rfl
@[simp] theorem zru : prog.cellsOf 322 = 1 := by kernel_rfl
@[simp] theorem zkD : prog.info? 322 = some t322 := by kernel_rfl
@[simp] theorem zxA : z01 prog 322 := z02 zkD rfl
@[simp] theorem zrv : prog.cellsOf 323 = 1 := by kernel_rfl
@[simp] theorem zkE : prog.info? 323 = some t323 := by kernel_rfl
@[simp] theorem zxB : z01 prog 323 := z02 zkE rfl
@[simp] theorem zrw : prog.cellsOf 324 = 1 := by kernel_rfl
@[simp] theorem zkF : prog.info? 324 = some t324 := by kernel_rfl
@[simp] theorem zxC : z01 prog 324 := z02 zkF rfl
@[simp] theorem zrx : prog.cellsOf 325 = 1 := by kernel_rfl
@[simp] theorem zkG : prog.info? 325 = some t325 := by kernel_rfl
@[simp] theorem zxD : z01 prog 325 := z02 zkG rfl
@[simp] theorem zry : prog.cellsOf 326 = 1 := by kernel_rfl
@[simp] theorem zkH : prog.info? 326 = some t326 := by kernel_rfl
@[simp] theorem zxE : z01 prog 326 := z02 zkH rfl
@[simp] theorem zrz : prog.cellsOf 327 = 1 := by kernel_rfl
@[simp] theorem zkI : prog.info? 327 = some t327 := by kernel_rfl
@[simp] theorem zxF : z01 prog 327 := z02 zkI rfl
@[simp] theorem zrA : prog.cellsOf 328 = 1 := by kernel_rfl
@[simp] theorem zkJ : prog.info? 328 = some t328 := by kernel_rfl
@[simp] theorem zxG : z01 prog 328 := z02 zkJ rfl
@[simp] theorem zrB : prog.cellsOf 329 = 1 := by kernel_rfl
@[simp] theorem zkK : prog.info? 329 = some t329 := by kernel_rfl
@[simp] theorem zxH : z01 prog 329 := z02 zkK rfl
@[simp] theorem zrC : prog.cellsOf 330 = 1 := by kernel_rfl
@[simp] theorem zkL : prog.info? 330 = some t330 := by kernel_rfl
@[simp] theorem zxI : z01 prog 330 := z02 zkL rfl
@[simp] theorem zrD : prog.cellsOf 331 = 1 := by kernel_rfl
@[simp] theorem zkM : prog.info? 331 = some t331 := by kernel_rfl
@[simp] theorem zxJ : z01 prog 331 := z02 zkM rfl
@[simp] theorem zrE : prog.cellsOf 332 = 4 := by kernel_rfl
@[simp] theorem zkN : prog.info? 332 = some t332 := by kernel_rfl
@[simp] theorem zxK : z01 prog 332 := z02 zkN rfl
@[simp] theorem zrF : prog.cellsOf 333 = 4 := by kernel_rfl
@[simp] theorem zkO : prog.info? 333 = some t333 := by kernel_rfl
@[simp] theorem zxL : z01 prog 333 := z02 zkO rfl
@[simp] theorem zrG : prog.cellsOf 334 = 0 := by kernel_rfl
@[simp] theorem zkP : prog.info? 334 = some t334 := by kernel_rfl
@[simp] theorem zxM : z01 prog 334 := z02 zkP rfl
@[simp] theorem zrH : prog.cellsOf 335 = 0 := by kernel_rfl
@[simp] theorem zkQ : prog.info? 335 = some t335 := by kernel_rfl
@[simp] theorem zxN : z01 prog 335 := z02 zkQ rfl
@[simp] theorem zrI : prog.cellsOf 336 = 0 := by kernel_rfl
@[simp] theorem zkR : prog.info? 336 = some t336 := by kernel_rfl
@[simp] theorem zxO : z01 prog 336 := z02 zkR rfl
@[simp] theorem zrJ : prog.cellsOf 337 = 1 := by kernel_rfl
@[simp] theorem zkS : prog.info? 337 = some t337 := by kernel_rfl
@[simp] theorem zxP : z01 prog 337 := z02 zkS rfl
@[simp] theorem zrK : prog.cellsOf 338 = 1 := by kernel_rfl
@[simp] theorem zkT : prog.info? 338 = some t338 := by kernel_rfl
@[simp] theorem zxQ : z01 prog 338 := z02 zkT rfl
@[simp] theorem zrL : prog.cellsOf 339 = 1 := by kernel_rfl
@[simp] theorem zkU : prog.info? 339 = some t339 := by kernel_rfl
@[simp] theorem zxR : z01 prog 339 := z02 zkU rfl
@[simp] theorem zrM : prog.cellsOf 340 = 1 := by kernel_rfl
@[simp] theorem zkV : prog.info? 340 = some t340 := by kernel_rfl
@[simp] theorem zxS : z01 prog 340 := z02 zkV rfl
@[simp] theorem zrN : prog.cellsOf 341 = 1 := by kernel_rfl
@[simp] theorem zkW : prog.info? 341 = some t341 := by kernel_rfl
@[simp] theorem zxT : z01 prog 341 := z02 zkW rfl
@[simp] theorem zrO : prog.cellsOf 342 = 1 := by kernel_rfl
@[simp] theorem zkX : prog.info? 342 = some t342 := by kernel_rfl
@[simp] theorem zxU : z01 prog 342 := z02 zkX rfl
@[simp] theorem zrP : prog.cellsOf 343 = 1 := by kernel_rfl
@[simp] theorem zkY : prog.info? 343 = some t343 := by kernel_rfl
@[simp] theorem zxV : z01 prog 343 := z02 zkY rfl
@[simp] theorem zrQ : prog.cellsOf 344 = 11 := by kernel_rfl
@[simp] theorem zkZ : prog.info? 344 = some t344 := by kernel_rfl
@[simp] theorem zxW : z01 prog 344 := z02 zkZ rfl
@[simp] theorem zrR : prog.cellsOf 345 = 11 := by kernel_rfl
@[simp] theorem zl0 : prog.info? 345 = some t345 := by kernel_rfl
@[simp] theorem zxX : z01 prog 345 := z02 zl0 rfl
@[simp] theorem zrS : prog.cellsOf 346 = 1 := by kernel_rfl
@[simp] theorem zl1 : prog.info? 346 = some t346 := by kernel_rfl
@[simp] theorem zxY : z01 prog 346 := z02 zl1 rfl
end Go.Proofs.YtaagjnlkinojcaaGreat
